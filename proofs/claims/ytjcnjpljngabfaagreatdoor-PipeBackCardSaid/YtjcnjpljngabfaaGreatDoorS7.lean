/- Pure words: the first word of a list of words; a stage's cases over the words behind its first. -/
import Derived.Test.YtjcnjpljngabfaaGreatDoorS3
namespace Go.Proofs.YtjcnjpljngabfaaGreatDoor
open Go.RowKit Go.Proofs.YtjcnjpljngabfaaGreatDoorW.PrintWords
set_option linter.unusedVariables false
def hdT : List Wd → BA
  | [] => ByteArray.empty
  | (t, _) :: _ => if t = barT then ByteArray.empty else t
theorem kind_hd (ws : List Wd) : kindOf (hdT ws) = match ws with | [] => 0 | (t, _) :: _ => kindOf t := by
  cases ws with
  | nil => decide +kernel
  | cons x r =>
    obtain ⟨t, a⟩ := x
    by_cases h : t = barT
    · subst h
      show kindOf (if barT = barT then ByteArray.empty else barT) = kindOf barT
      rw [if_pos rfl]; decide +kernel
    · simp [hdT, h]
def hdA (F : Nat) : List Wd → Nat
  | [] => F
  | (_, a) :: _ => a
def hdBar : List Wd → Bool
  | [] => false
  | (t, _) :: _ => decide (t = barT)
def hdBad (odd : Bool) : List Wd → Bool
  | [] => odd
  | _ :: _ => false
theorem tok_eq {s : BA} {i : Nat} {ws : List Wd} {F : Nat} (hi : i ≤ s.size) (hw : words s i = ws) (hF : fin s i = F) :
    tokAt s i = ⟨hdT ws, hdA F ws, hdBar ws, hdBad (decide (F < s.size)) ws⟩ ∧ hdA F ws ≤ s.size ∧ words s (hdA F ws) = ws ∧ fin s (hdA F ws) = F := by
  have hsk : words s (tokAt s i).at_ = words s i ∧ fin s (tokAt s i).at_ = fin s i ∧ (tokAt s i).at_ ≤ s.size := by
    have e := scan_scan blankB s i
    have hl := scan_le blankB s i hi
    refine ⟨?_, ?_, hl⟩
    · show words s (scan blankB s i) = _
      rw [words_eq s _ hl, words_eq s i hi, e]
    · show fin s (scan blankB s i) = _
      rw [fin_eq s _ hl, fin_eq s i hi, e]
  cases ws with
  | nil =>
    obtain ⟨h1, h2⟩ := tok_nil hi hw
    rw [h1] at hsk
    rw [h1, hF] at *
    exact ⟨rfl, hsk.2.2, hsk.1.trans hw, hsk.2.1⟩
  | cons x ws =>
    obtain ⟨t, a⟩ := x
    rcases tok_cons hi hw with ⟨rfl, h1, _⟩ | ⟨hne, _, h1, _⟩
    · rw [h1] at hsk
      exact ⟨by rw [h1]; simp [hdT, hdA, hdBar, hdBad], hsk.2.2, hsk.1.trans hw, hsk.2.1.trans hF⟩
    · rw [h1] at hsk
      exact ⟨by rw [h1]; simp [hdT, hdA, hdBar, hdBad, hne], hsk.2.2, hsk.1.trans hw, hsk.2.1.trans hF⟩
section
variable {odd : Bool} {F : Nat} {ahead : Option (List BA)} {t : BA} {a k : Nat} {r : List Wd}
def GoOn (ahead : Option (List BA)) (k : Nat) : Prop := k ≠ 0 ∧ ¬ (ahead.isSome = true ∧ k ≠ 9 ∧ k ≠ 10 ∧ k ≠ 13)
theorem st_go (hT : kindOf t = k) (hg : GoOn ahead k) : stageS spanOf odd F ahead ((t, a) :: r) =
    if k = 1 then
      match r with
      | [] => .ok ⟨1, 0, []⟩ []
      | (t2, a2) :: r2 => if t2 = byT then (namesS odd F 1 1 [] r2).map (fun l => ⟨1, 0, l⟩) else .ok ⟨1, 0, []⟩ ((t2, a2) :: r2)
    else if k = 13 then
      match r with
      | [] => .bad F
      | (t2, a2) :: r2 => if mayName ahead (nameT t2) = true then .ok ⟨13, if fallT t2 then 1 else 0, [nameT t2]⟩ r2 else .bad a2
    else if 0 < (bnd k).1 then
      match r with
      | [] => .bad F
      | (t2, a2) :: r2 =>
        match countOf spanOf k t2 with
        | none => .bad a2
        | some n => (namesS odd F (bnd k).2.2.1.toNat (bnd k).2.2.2.toNat [] r2).map (fun l => ⟨k, n, l⟩)
    else (namesS odd F (bnd k).2.2.1.toNat (bnd k).2.2.2.toNat [] r).map (fun l => ⟨k, 0, l⟩) := by
  rw [stageS.eq_def]
  dsimp only
  rw [hT, if_neg (by rintro (h | h); exact hg.1 h; exact hg.2 h)]
  rfl
theorem st_by (hT : kindOf t = k) (hg : GoOn ahead k) (h1 : k = 1) (hb : hdT r = byT) : ∃ a2 r2, r = (byT, a2) :: r2 ∧ stageS spanOf odd F ahead ((t, a) :: r) = (namesS odd F 1 1 [] r2).map fun l => ⟨k, 0, l⟩ := by
  rw [st_go hT hg, if_pos h1]
  cases r with
  | nil => exact absurd hb (by decide)
  | cons x r =>
    obtain ⟨t2, a2⟩ := x
    have h2 : t2 = byT := by
      by_cases h : t2 = barT
      · rw [hdT, if_pos h] at hb; exact absurd hb (by decide)
      · rw [hdT, if_neg h] at hb; exact hb
    subst h2 h1
    exact ⟨a2, r, rfl, by dsimp only; rw [if_pos rfl]; rfl⟩
theorem st_noby (hT : kindOf t = k) (hg : GoOn ahead k) (h1 : k = 1) (hb : hdT r ≠ byT) : stageS spanOf odd F ahead ((t, a) :: r) = .ok ⟨k, 0, []⟩ r := by
  rw [st_go hT hg, if_pos h1]
  subst h1
  cases r with
  | nil => rfl
  | cons x r =>
    obtain ⟨t2, a2⟩ := x
    have h2 : t2 ≠ byT := by
      rintro rfl
      exact hb (by rw [hdT, if_neg (by decide)])
    dsimp only
    rw [if_neg h2]; rfl
theorem mayName_no (ahead : Option (List BA)) {x : BA} (h : isName x = false) : mayName ahead x = false := by simp [mayName, h]
theorem name_bar : isName (nameT barT) = false := by decide +kernel
theorem name_nil : isName (nameT ByteArray.empty) = false := by decide +kernel
theorem st_sortn (hT : kindOf t = k) (hg : GoOn ahead k) (h1 : k = 13) (hm : mayName ahead (nameT (hdT r)) = false) : stageS spanOf odd F ahead ((t, a) :: r) = .bad (hdA F r) := by
  rw [st_go hT hg, if_neg (by omega), if_pos h1]
  cases r with
  | nil => rfl
  | cons x r =>
    obtain ⟨t2, a2⟩ := x
    have h2 : ¬ mayName ahead (nameT t2) = true := by
      by_cases h : t2 = barT
      · subst h; rw [mayName_no _ name_bar]; decide
      · rw [hdT, if_neg h] at hm; rw [hm]; decide
    dsimp only
    rw [if_neg h2]; rfl
theorem st_sorty (hT : kindOf t = k) (hg : GoOn ahead k) (h1 : k = 13) (hm : mayName ahead (nameT (hdT r)) = true) : ∃ t2 a2 r2, r = (t2, a2) :: r2 ∧ t2 ≠ barT ∧ hdT r = t2 ∧ stageS spanOf odd F ahead ((t, a) :: r) = .ok ⟨k, if fallT (hdT r) then 1 else 0, [nameT (hdT r)]⟩ r2 := by
  rw [st_go hT hg, if_neg (by omega), if_pos h1]
  cases r with
  | nil => rw [hdT, mayName_no _ name_nil] at hm; cases hm
  | cons x r =>
    obtain ⟨t2, a2⟩ := x
    by_cases h : t2 = barT
    · subst h; rw [hdT, if_pos rfl, mayName_no _ name_nil] at hm; cases hm
    · have e : hdT ((t2, a2) :: r) = t2 := by rw [hdT, if_neg h]
      rw [e] at hm ⊢
      refine ⟨t2, a2, r, rfl, h, rfl, ?_⟩
      dsimp only
      rw [if_pos hm]
      subst h1; rfl
theorem count_bar {k : Int} : countOf spanOf k barT = none := by
  unfold countOf
  split
  · decide +kernel
  · rw [manyOf, if_neg (by rintro ⟨_, _, _, h, _⟩; exact absurd h (by decide))]
theorem count_nil {k : Int} : countOf spanOf k ByteArray.empty = none := by
  unfold countOf
  split
  · decide +kernel
  · rw [manyOf, if_neg (by rintro ⟨h, _⟩; exact absurd h (by decide))]
theorem st_numn (hT : kindOf t = k) (hg : GoOn ahead k) (h1 : k ≠ 1) (h13 : k ≠ 13) (hl : 0 < (bnd k).1) (hm : countOf spanOf k (hdT r) = none) : stageS spanOf odd F ahead ((t, a) :: r) = .bad (hdA F r) := by
  rw [st_go hT hg, if_neg h1, if_neg h13, if_pos hl]
  cases r with
  | nil => rfl
  | cons x r =>
    obtain ⟨t2, a2⟩ := x
    have h2 : countOf spanOf k t2 = none := by
      by_cases h : t2 = barT
      · subst h; exact count_bar
      · rw [hdT, if_neg h] at hm; exact hm
    dsimp only
    rw [h2]; rfl
theorem st_numy {n few many : Nat} (hT : kindOf t = k) (hg : GoOn ahead k) (h1 : k ≠ 1) (h13 : k ≠ 13) (hl : 0 < (bnd k).1) (hm : countOf spanOf k (hdT r) = some n) (hf : (bnd k).2.2.1 = few ∧ (bnd k).2.2.2 = many) :
    ∃ t2 a2 r2, r = (t2, a2) :: r2 ∧ t2 ≠ barT ∧ hdT r = t2 ∧ stageS spanOf odd F ahead ((t, a) :: r) = (namesS odd F few many [] r2).map fun l => ⟨k, n, l⟩ := by
  rw [st_go hT hg, if_neg h1, if_neg h13, if_pos hl, hf.1, hf.2]
  cases r with
  | nil => rw [hdT, count_nil] at hm; cases hm
  | cons x r =>
    obtain ⟨t2, a2⟩ := x
    by_cases h : t2 = barT
    · subst h; rw [hdT, if_pos rfl, count_nil] at hm; cases hm
    · have e : hdT ((t2, a2) :: r) = t2 := by rw [hdT, if_neg h]
      rw [e] at hm ⊢
      refine ⟨t2, a2, r, rfl, h, rfl, ?_⟩
      dsimp only
      rw [hm]; rfl
theorem st_none {few many : Nat} (hT : kindOf t = k) (hg : GoOn ahead k) (h1 : k ≠ 1) (h13 : k ≠ 13) (hl : ¬ 0 < (bnd k).1) (hf : (bnd k).2.2.1 = few ∧ (bnd k).2.2.2 = many) :
    stageS spanOf odd F ahead ((t, a) :: r) = (namesS odd F few many [] r).map fun l => ⟨k, 0, l⟩ := by
  rw [st_go hT hg, if_neg h1, if_neg h13, if_neg hl, hf.1, hf.2]; rfl
theorem nameT_size (t : BA) : (if fallT t then 1 else 0) + (nameT t).size = t.size := by
  unfold nameT
  by_cases h : fallT t = true
  · rw [if_pos h, if_pos h]
    have : 0 < t.size := by
      cases hl : t.data.toList with
      | nil => rw [fallT, hl] at h; cases h
      | cons c l => have e : t.data.toList.length = t.size := rfl; rw [hl] at e; simp at e; omega
    simp; omega
  · rw [if_neg h, if_neg h]; simp
end
theorem fall_nil {x : BA} (h : x.size = 0) : fallT x = false := by
  have : x.data.toList = [] := List.eq_nil_of_length_eq_zero h
  rw [fallT, this]; rfl
theorem fall_eq {x : BA} (h : 0 < x.size) : fallT x = decide (x[0].toNat = 45) := by
  have e := drop_at x 0 h
  rw [List.drop_zero] at e
  rw [fallT, e, Bool.eq_iff_iff]
  simp [← UInt8.toNat_inj]
end Go.Proofs.YtjcnjpljngabfaaGreatDoor
