/- Pure words: stages of raw numbers (chapter 24's statements) are right. -/
import Derived.Test.YtjcnjpljngabfaaGreatDoorS5
namespace Go.Proofs.YtjcnjpljngabfaaGreatDoor
open Go.Proofs.YtjcnjpljngabfaaGreatDoorW.PrintWords
/-- raw numbers of a stage -/
structure RawS where
  kind : Int
  n : Int
  a : Int
  b : Int
/-- which of n things a raw number speaks of -/
def pickS (c : Int) (n : Nat) : Nat := ((if c < 0 then -(c + 1) else c) % n).toNat
theorem pickS_lt (c : Int) {n : Nat} (h : 0 < n) : pickS c n < n := by
  unfold pickS
  have h1 := Int.emod_lt_of_pos (if c < 0 then -(c + 1) else c) (show (0 : Int) < n by omega)
  have h2 := Int.emod_nonneg (if c < 0 then -(c + 1) else c) (show (n : Int) ≠ 0 by omega)
  omega
def nameL : List BA := [tx [97], tx [98], tx [115, 116, 97, 116, 117, 115], tx [120, 46, 121], tx [99, 111, 117, 110, 116]]
def nameS (c : Int) : BA := nameL.getD (pickS c 5) ByteArray.empty
theorem nameL_ok : ∀ j : Fin 5, isName (nameL.getD j.val ByteArray.empty) = true := by decide +kernel
theorem nameS_ok (c : Int) : isName (nameS c) = true := nameL_ok ⟨pickS c 5, pickS_lt c (by decide)⟩
/-- a stage behind a head (empty: there is none) -/
def madeK (r : RawS) (head : List BA) : Nat := if 0 < head.length then [9, 10, 13].getD (pickS r.kind 3) 0 else 1 + pickS r.kind 13
def madeX (r : RawS) (head : List BA) : Stg :=
  let k := madeK r head
  if k = 1 then ⟨k, 0, if pickS r.a 2 = 1 then [nameS r.b] else []⟩
  else if k = 2 then ⟨k, 1 + pickS r.n 5, [nameS r.a]⟩
  else if k = 3 then ⟨k, 1 + pickS r.n 5000, []⟩
  else if k = 8 then ⟨k, 1 + pickS r.n 100, [nameS r.a]⟩
  else if k = 9 ∨ k = 10 then ⟨k, 1 + pickS r.n 9, []⟩
  else if k = 12 then ⟨k, 0, if nameS r.b = nameS r.a then [nameS r.a] else [nameS r.a, nameS r.b]⟩
  else if k = 13 then ⟨k, pickS r.n 2, [if 0 < head.length then head.getD (pickS r.a head.length) ByteArray.empty else nameS r.a]⟩
  else ⟨k, 0, [nameS r.a]⟩
/-- all of them, one behind the other, with the head that there is -/
def madeF : List BA → List RawS → List Stg
  | _, [] => []
  | head, r :: l => madeX r head :: madeF (if head.length = 0 ∧ tableB (madeX r head).kind = true then headS (madeX r head) else head) l
def madeS (l : List RawS) : List Stg := madeF [] (l.take 8)
/-- the head as the stages' rule has it -/
def ahO (head : List BA) : Option (List BA) := if 0 < head.length then some head else none
theorem madeK_ok (r : RawS) (head : List BA) : 1 ≤ madeK r head ∧ madeK r head ≤ 13 ∧ (0 < head.length → madeK r head = 9 ∨ madeK r head = 10 ∨ madeK r head = 13) := by
  unfold madeK
  have h1 := pickS_lt r.kind (n := 13) (by decide)
  have h2 := pickS_lt r.kind (n := 3) (by decide)
  split
  · have : ∀ j : Fin 3, [9, 10, 13].getD j.val 0 = 9 ∨ [9, 10, 13].getD j.val 0 = 10 ∨ [9, 10, 13].getD j.val 0 = 13 := by decide
    have := this ⟨pickS r.kind 3, h2⟩
    simp only at this
    omega
  · omega
theorem nok1 {x : BA} (h : isName x = true) : namesOk [] [x] = true := by simp [namesOk, h, hasT]
theorem good1 {k n : Nat} {y : BA} (h1 : 1 ≤ k) (h2 : k ≤ 13) (h3 : (bnd (k : Int)).1 ≤ n) (h4 : (n : Int) ≤ (bnd (k : Int)).2.1) (h5 : (bnd (k : Int)).2.2.1 ≤ 1) (h6 : 1 ≤ (bnd (k : Int)).2.2.2) (hy : isName y = true) : goodS ⟨k, n, [y]⟩ = true :=
  good_of h1 h2 h3 h4 h5 h6 (nok1 hy)
theorem made_good (r : RawS) (head : List BA) (hh : ∀ x ∈ head, isName x = true) : goodS (madeX r head) = true ∧ (madeX r head).kind = madeK r head := by
  obtain ⟨k1, k2, k3⟩ := madeK_ok r head
  unfold madeX
  generalize madeK r head = k at k1 k2 k3
  dsimp only
  have h2 := pickS_lt r.n (n := 2) (by decide)
  have h5 := pickS_lt r.n (n := 5) (by decide)
  have h9 := pickS_lt r.n (n := 9) (by decide)
  have h100 := pickS_lt r.n (n := 100) (by decide)
  have h5000 := pickS_lt r.n (n := 5000) (by decide)
  have na := nameS_ok r.a
  have nb := nameS_ok r.b
  split
  · rename_i e; subst e
    refine ⟨?_, rfl⟩
    split
    · exact good1 (k := 1) (n := 0) (by decide) (by decide) (by decide) (by decide) (by decide) (by decide) nb
    · decide
  · split
    · rename_i e; subst e
      have b1 : (bnd ((2 : Nat) : Int)).1 = 1 := by decide
      have b2 : (bnd ((2 : Nat) : Int)).2.1 = 1000000 := by decide
      exact ⟨good1 (k := 2) (n := 1 + pickS r.n 5) (by decide) (by decide) (by omega) (by omega) (by decide) (by decide) na, rfl⟩
    · split
      · rename_i e; subst e
        have b1 : (bnd ((3 : Nat) : Int)).1 = 1 := by decide
        have b2 : (bnd ((3 : Nat) : Int)).2.1 = 253402300799999 := by decide
        exact ⟨good_of (k := 3) (n := 1 + pickS r.n 5000) (by decide) (by decide) (by omega) (by omega) (by decide) (by decide) rfl, rfl⟩
      · split
        · rename_i e; subst e
          have b1 : (bnd ((8 : Nat) : Int)).1 = 1 := by decide
          have b2 : (bnd ((8 : Nat) : Int)).2.1 = 100 := by decide
          exact ⟨good1 (k := 8) (n := 1 + pickS r.n 100) (by decide) (by decide) (by omega) (by omega) (by decide) (by decide) na, rfl⟩
        · split
          · rename_i e
            rcases e with e | e
            · subst e
              have b1 : (bnd ((9 : Nat) : Int)).1 = 1 := by decide
              have b2 : (bnd ((9 : Nat) : Int)).2.1 = 1000000 := by decide
              exact ⟨good_of (k := 9) (n := 1 + pickS r.n 9) (by decide) (by decide) (by omega) (by omega) (by decide) (by decide) rfl, rfl⟩
            · subst e
              have b1 : (bnd ((10 : Nat) : Int)).1 = 1 := by decide
              have b2 : (bnd ((10 : Nat) : Int)).2.1 = 1000000 := by decide
              exact ⟨good_of (k := 10) (n := 1 + pickS r.n 9) (by decide) (by decide) (by omega) (by omega) (by decide) (by decide) rfl, rfl⟩
          · split
            · rename_i e; subst e
              refine ⟨?_, rfl⟩
              split
              · exact good1 (k := 12) (n := 0) (by decide) (by decide) (by decide) (by decide) (by decide) (by decide) na
              · rename_i hne
                refine good_of (k := 12) (n := 0) (by decide) (by decide) (by decide) (by decide) (by show (bnd ((12 : Nat) : Int)).2.2.1 ≤ 2; decide) (by show (2 : Int) ≤ (bnd ((12 : Nat) : Int)).2.2.2; decide) ?_
                have : hasT [nameS r.a] (nameS r.b) = false := by
                  simp [hasT]; exact fun e => hne e.symm
                simp [namesOk, na, nb, this]
                simp [hasT]
            · split
              · rename_i e; subst e
                refine ⟨good1 (k := 13) (n := pickS r.n 2) (by decide) (by decide) ?_ ?_ (by decide) (by decide) ?_, rfl⟩
                · have b1 : (bnd ((13 : Nat) : Int)).1 = 0 := by decide
                  omega
                · have b2 : (bnd ((13 : Nat) : Int)).2.1 = 1 := by decide
                  omega
                · split
                  · rename_i hp
                    have := pickS_lt r.a hp
                    rw [List.getD_eq_getElem?_getD, List.getElem?_eq_getElem this]
                    exact hh _ (List.getElem_mem this)
                  · exact na
              · have hc : k = 4 ∨ k = 5 ∨ k = 6 ∨ k = 7 ∨ k = 11 := by omega
                refine ⟨?_, rfl⟩
                rcases hc with rfl | rfl | rfl | rfl | rfl <;> exact good1 (n := 0) (by decide) (by decide) (by decide) (by decide) (by decide) (by decide) na
theorem made_behind (r : RawS) (head : List BA) (hh : ∀ x ∈ head, isName x = true) : behindS (ahO head) (madeX r head) = true := by
  unfold ahO
  split
  · rename_i hp
    have hk := (made_good r head hh).2
    rcases (madeK_ok r head).2.2 hp with h | h | h
    · rw [h] at hk; simp [behindS, hk]
    · rw [h] at hk; simp [behindS, hk]
    · have : (madeX r head).names = [head.getD (pickS r.a head.length) ByteArray.empty] := by simp [madeX, h, hp]
      rw [h] at hk
      have hm : hasT head (head.getD (pickS r.a head.length) ByteArray.empty) = true := by
        have := pickS_lt r.a hp
        rw [hasT_iff, List.getD_eq_getElem?_getD, List.getElem?_eq_getElem this]
        exact List.getElem_mem this
      rw [behindS, hk, this]
      exact hm
  · rfl
theorem names_all : ∀ (l acc : List BA), namesOk acc l = true → ∀ y ∈ l, isName y = true
  | [], _, _ => by simp
  | x :: l, acc, h => by
    simp only [namesOk, Bool.and_eq_true] at h
    intro y hy
    rcases List.mem_cons.1 hy with rfl | hy
    · exact h.1.1
    · exact names_all l _ h.2 y hy
theorem kw_name : ∀ k : Fin 14, 1 ≤ k.val → isName (kwL.getD k.val ByteArray.empty) = true := by decide +kernel
theorem head_names {x : Stg} (h : goodS x = true) : (∀ y ∈ headS x, isName y = true) ∧ (tableB x.kind = true → 0 < (headS x).length) := by
  obtain ⟨k, hk, k1, k2, _, _, b3, _, hn⟩ := goodS_spec h
  have ha := names_all _ _ hn
  have hc : isName countT = true := by decide +kernel
  have ht : isName timeT = true := by decide +kernel
  unfold headS
  split
  · refine ⟨fun y hy => ?_, fun _ => by simp⟩
    rcases List.mem_append.1 hy with hy | hy
    · exact ha y hy
    · rw [List.mem_singleton] at hy; subst hy; exact hc
  · split
    · refine ⟨fun y hy => ?_, fun _ => by simp⟩
      simp at hy
      rcases hy with rfl | rfl
      · exact ht
      · exact hc
    · split
      · rename_i e
        refine ⟨ha, fun _ => ?_⟩
        have : k = 12 := by omega
        subst this
        have b : (bnd ((12 : Nat) : Int)).2.2.1 = 1 := by decide
        omega
      · refine ⟨fun y hy => ?_, fun _ => by simp⟩
        rw [List.mem_singleton, hk, Int.toNat_natCast] at hy
        subst hy
        exact kw_name ⟨k, by omega⟩ k1
theorem made_right : ∀ (l : List RawS) (head : List BA), (∀ x ∈ head, isName x = true) → rightF (ahO head) (madeF head l) = true
  | [], _, _ => rfl
  | r :: l, head, hh => by
    obtain ⟨hg, hk⟩ := made_good r head hh
    have hb := made_behind r head hh
    obtain ⟨hn1, hn2⟩ := head_names hg
    rw [madeF, rightF, mayS, hg, hb, Bool.true_and, Bool.true_and]
    have hk3 := (madeK_ok r head).2.2
    by_cases hp : 0 < head.length
    · have ht : tableB (madeX r head).kind = false := by
        rw [hk]
        rcases hk3 hp with h | h | h <;> rw [h] <;> decide
      have e : nextH (ahO head) (madeX r head) = ahO head := by rw [nextH, ht]; rfl
      rw [e, if_neg (by omega)]
      exact made_right l head hh
    · have h0 : head.length = 0 := by omega
      cases ht : tableB (madeX r head).kind with
      | true =>
        have e : nextH (ahO head) (madeX r head) = ahO (headS (madeX r head)) := by rw [nextH, ht, if_pos rfl]; unfold ahO; rw [if_pos (hn2 ht)]
        rw [e, if_pos ⟨h0, rfl⟩]
        exact made_right l _ hn1
      | false =>
        have e : nextH (ahO head) (madeX r head) = ahO head := by rw [nextH, ht]; rfl
        rw [e, if_neg (by simp)]
        exact made_right l head hh
theorem madeF_len : ∀ (l : List RawS) (head : List BA), (madeF head l).length = l.length
  | [], _ => rfl
  | r :: l, head => by rw [madeF, List.length_cons, madeF_len l, List.length_cons]
theorem madeS_right (l : List RawS) : rightS (madeS l) = true := by
  rw [rightS, madeS, madeF_len, Bool.and_eq_true, decide_eq_true_eq, List.length_take]
  exact ⟨by omega, made_right _ [] (by simp)⟩
end Go.Proofs.YtjcnjpljngabfaaGreatDoor
