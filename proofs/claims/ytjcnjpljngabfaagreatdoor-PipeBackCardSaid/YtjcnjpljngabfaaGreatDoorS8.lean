/- Pure words: what is written, stage by stage; how long it is. -/
import Derived.Test.YtjcnjpljngabfaaGreatDoorS6
namespace Go.Proofs.YtjcnjpljngabfaaGreatDoor
open Go.Proofs.YtjcnjpljngabfaaGreatDoorW.PrintWords
def blkB (l : List BA) : List UInt8 := l.flatMap fun t => 32 :: t.data.toList
theorem blkB_cons (t : BA) (l : List BA) : blkB (t :: l) = 32 :: (t.data.toList ++ blkB l) := by simp [blkB]
theorem blkB_append (a b : List BA) : blkB (a ++ b) = blkB a ++ blkB b := by simp [blkB]
theorem glue_one : ∀ ts : List BA, glue (ts.map fun u => (1, u)) 0 = blkB ts
  | [] => rfl
  | t :: ts => by rw [List.map_cons, glue, glue_one ts, blkB_cons]; rfl
def stageB (x : Stg) : List UInt8 := (kwL.getD x.kind.toNat ByteArray.empty).data.toList ++ blkB (tailT x)
def moreB (l : List Stg) : List UInt8 := l.flatMap fun y => [32, 124, 32] ++ stageB y
theorem moreB_cons (x : Stg) (l : List Stg) : moreB (x :: l) = 32 :: 124 :: 32 :: (stageB x ++ moreB l) := by simp [moreB]
theorem blk_more : ∀ l : List Stg, blkB (l.flatMap fun y => barT :: toksS y) = moreB l
  | [] => rfl
  | x :: l => by
    rw [List.flatMap_cons, blkB_append, blk_more l, moreB_cons, blkB_cons, toksS, blkB_cons, stageB]
    simp [barT, tx]
theorem print_nil : printL [] = [] := rfl
theorem print_cons (x : Stg) (l : List Stg) : printL (x :: l) = stageB x ++ moreB l := by
  rw [printL, stepsT, toksS, List.cons_append, gapsT, glue, glue_one, blkB_append, blk_more, stageB]
  simp
/-- what is still to be written ahead of the i-th stage -/
def restB (l : List Stg) (i : Nat) : List UInt8 := if i = 0 then printL l else moreB (l.drop i)
theorem rest_at {l : List Stg} {i : Nat} (hi : i < l.length) : restB l i = (if i = 0 then [] else [32, 124, 32]) ++ (stageB l[i] ++ restB l (i + 1)) := by
  have hd := List.drop_eq_getElem_cons hi
  rw [restB, restB, if_neg (Nat.succ_ne_zero i)]
  by_cases h : i = 0
  · subst h
    rw [if_pos rfl, if_pos rfl]
    rw [List.drop_zero] at hd
    rw [show printL l = printL (l[0] :: l.drop (0 + 1)) from congrArg printL hd, print_cons]; rfl
  · rw [if_neg h, if_neg h, hd, moreB_cons]; rfl
theorem rest_end (l : List Stg) : restB l l.length = [] := by
  unfold restB
  by_cases h : l.length = 0
  · rw [if_pos h, List.eq_nil_of_length_eq_zero h]; rfl
  · rw [if_neg h, List.drop_length]; rfl
/-- what stands between a stage's word and its names -/
def preS (x : Stg) : List UInt8 :=
  if x.kind = 3 then 32 :: (spellT x.n.toNat).data.toList
  else if x.kind = 1 ∧ 0 < x.names.length then 32 :: byT.data.toList
  else if x.kind ≠ 13 ∧ 0 < x.n then 32 :: (numT x.n.toNat).data.toList
  else []
theorem stage_pre {x : Stg} (h : ¬ (x.kind = 13 ∧ x.n = 1)) : stageB x = (kwL.getD x.kind.toNat ByteArray.empty).data.toList ++ (preS x ++ blkB x.names) := by
  rw [stageB, tailT, preS]
  by_cases h3 : x.kind = 3
  · rw [if_pos h3, if_pos h3, blkB_cons]; rfl
  · rw [if_neg h3, if_neg h3]
    by_cases h1 : x.kind = 1 ∧ 0 < x.names.length
    · rw [if_pos h1, if_pos h1, blkB_cons]; rfl
    · rw [if_neg h1, if_neg h1, if_neg h]
      by_cases h2 : x.kind ≠ 13 ∧ 0 < x.n
      · rw [if_pos h2, if_pos h2, blkB_cons]; rfl
      · rw [if_neg h2, if_neg h2]; rfl
theorem stage_fall {x : Stg} (h : x.kind = 13 ∧ x.n = 1) : stageB x = (kwL.getD x.kind.toNat ByteArray.empty).data.toList ++ (32 :: 45 :: (x.names.headD ByteArray.empty).data.toList) := by
  rw [stageB, tailT, if_neg (by omega), if_neg (by omega), if_pos h, blkB_cons, tx_list]
  simp [blkB]
/-! how long -/
theorem name_le {y : BA} (h : isName y = true) : y.size ≤ 64 := by
  simp only [isName, Bool.and_eq_true, decide_eq_true_eq] at h
  omega
theorem spell_len : ∀ (us : List (BA × Nat)) (m : Nat), m ≤ 253402300799999 → (∀ u ∈ us, u.1.size ≤ 2) → (spellF us m).length ≤ us.length * 17
  | [], m, _, _ => by simp [spellF]
  | u :: us, m, hm, h => by
    rw [spellF]
    have h1 := h u (by simp)
    have hl : u.1.data.toList.length = u.1.size := rfl
    split
    · have h2 := spell_len us (m % u.2) (Nat.le_trans (Nat.mod_le _ _) hm) (fun x hx => h x (List.mem_cons_of_mem _ hx))
      have h3 := dec_len 15 (m / u.2) (by decide) (by have := Nat.div_le_self m u.2; omega)
      simp only [List.length_append, List.length_cons]; omega
    · have h2 := spell_len us m hm (fun x hx => h x (List.mem_cons_of_mem _ hx))
      simp only [List.length_cons]; omega
theorem num_size {n : Nat} (h : n ≤ 253402300799999) : (numT n).size ≤ 15 := by
  rw [numT, tx_size]; exact dec_len 15 n (by decide) (by omega)
theorem spell_size {n : Nat} (h : n ≤ 253402300799999) : (spellT n).size ≤ 85 := by
  rw [spellT, tx_size]; exact spell_len unitsP n h (by decide)
theorem blk_len : ∀ (l : List BA) (B : Nat), (∀ y ∈ l, y.size ≤ B) → (blkB l).length ≤ l.length * (B + 1)
  | [], B, _ => by simp [blkB]
  | y :: l, B, h => by
    have h1 := h y (by simp)
    have h2 := blk_len l B (fun z hz => h z (List.mem_cons_of_mem _ hz))
    have h3 : y.data.toList.length = y.size := rfl
    rw [blkB_cons]
    simp only [List.length_cons, List.length_append]
    rw [Nat.add_mul]; omega
theorem bnd_max : ∀ k : Fin 14, 1 ≤ k.val → (bnd (k.val : Int)).2.1 ≤ 253402300799999 ∧ (bnd (k.val : Int)).2.2.2 ≤ 64 := by decide
theorem good_max {x : Stg} (h : goodS x = true) : x.n ≤ 253402300799999 ∧ 0 ≤ x.n ∧ x.names.length ≤ 64 ∧ (∀ y ∈ x.names, y.size ≤ 64) := by
  obtain ⟨k, hk, k1, k2, b1, b2, b3, b4, hn⟩ := goodS_spec h
  have := bnd_max ⟨k, by omega⟩ k1
  have h0 : ∀ j : Fin 14, 0 ≤ (bnd (j.val : Int)).1 := by decide
  have h1 := h0 ⟨k, by omega⟩
  simp only at this h1
  exact ⟨by omega, by omega, by omega, fun y hy => name_le (names_all _ _ hn y hy)⟩
theorem kw_size : ∀ k : Fin 14, (kwL.getD k.val ByteArray.empty).size ≤ 8 := by decide
theorem stage_len {x : Stg} (h : goodS x = true) : (stageB x).length ≤ 5000 := by
  obtain ⟨h1, h2, h3, h4⟩ := good_max h
  obtain ⟨k, hk, k1, k2, _⟩ := goodS_spec h
  have hkw : (kwL.getD x.kind.toNat ByteArray.empty).data.toList.length ≤ 8 := by
    rw [hk, Int.toNat_natCast]; exact kw_size ⟨k, by omega⟩
  by_cases hf : x.kind = 13 ∧ x.n = 1
  · rw [stage_fall hf]
    have h5 : (x.names.headD ByteArray.empty).size ≤ 64 := by
      cases hx : x.names with
      | nil => exact Nat.zero_le _
      | cons y l => exact h4 y (by rw [hx]; simp)
    have h6 : (x.names.headD ByteArray.empty).data.toList.length ≤ 64 := h5
    simp only [List.length_append, List.length_cons]; omega
  · rw [stage_pre hf]
    have h5 := blk_len x.names 64 h4
    have h6 : (preS x).length ≤ 86 := by
      have e1 := spell_size (n := x.n.toNat) (by omega)
      have e2 := num_size (n := x.n.toNat) (by omega)
      have e1' : (spellT x.n.toNat).data.toList.length ≤ 85 := e1
      have e2' : (numT x.n.toNat).data.toList.length ≤ 15 := e2
      have e3' : byT.data.toList.length = 2 := rfl
      rw [preS]
      split
      · simp only [List.length_cons]; omega
      · split
        · simp only [List.length_cons]; omega
        · split
          · simp only [List.length_cons]; omega
          · simp
    simp only [List.length_append]; omega
theorem more_len : ∀ l : List Stg, (∀ x ∈ l, goodS x = true) → (moreB l).length ≤ l.length * 5003
  | [], _ => by simp [moreB]
  | x :: l, h => by
    have h1 := stage_len (h x (by simp))
    have h2 := more_len l (fun y hy => h y (List.mem_cons_of_mem _ hy))
    rw [moreB_cons]
    simp only [List.length_cons, List.length_append]; omega
theorem print_len {l : List Stg} (h : rightS l = true) : (printL l).length ≤ 50000 := by
  rw [rightS, Bool.and_eq_true, decide_eq_true_eq] at h
  have hg := right_good l none h.2
  cases l with
  | nil => simp [print_nil]
  | cons x l =>
    have h1 := stage_len (hg x (by simp))
    have h2 := more_len l (fun y hy => hg y (List.mem_cons_of_mem _ hy))
    have := h.1
    simp only [List.length_cons] at this
    rw [print_cons, List.length_append]; omega
end Go.Proofs.YtjcnjpljngabfaaGreatDoor
