/- Pure words: how stages are read (chapter 24), over the words of a text. -/
import Derived.Test.YtjcnjpljngabfaaGreatDoorS1
namespace Go.Proofs.YtjcnjpljngabfaaGreatDoor
open Go.Proofs.YtjcnjpljngabfaaGreatDoorW.PrintWords
theorem ext_empty {s : BA} {j m : Nat} (h : m ≤ j) : s.extract j m = ByteArray.empty := by
  have : (s.extract j m).size = 0 := by rw [ByteArray.size_extract]; omega
  exact ByteArray.ext (Array.eq_empty_of_size_eq_zero this)
structure Tok where
  text : BA
  at_ : Nat
  bar : Bool
  bad : Bool
/-- the next token from a place on -/
def tokAt (s : BA) (i : Nat) : Tok :=
  let j := scan blankB s i
  let e := scan wordB s j
  { text := s.extract j e, at_ := j, bar := decide (e ≤ j) && decide (j < s.size) && (bt s j == 124), bad := decide (e ≤ j) && decide (j < s.size) && !(bt s j == 124) }
theorem bt_eq {s : BA} {j : Nat} (h : j < s.size) : bt s j = s[j].toNat := by simp [bt, h]
theorem tok_nil {s : BA} {i : Nat} (hi : i ≤ s.size) (h : words s i = []) : tokAt s i = ⟨ByteArray.empty, fin s i, false, decide (fin s i < s.size)⟩ ∧ scan blankB s i = fin s i := by
  have hj := scan_le blankB s i hi
  rw [words_eq s i hi] at h
  rw [fin_eq s i hi]
  by_cases hl : scan blankB s i < s.size
  · rw [dif_pos hl] at h
    rw [dif_pos hl]
    by_cases hb : s[scan blankB s i].toNat = 124
    · rw [if_pos hb] at h; cases h
    · rw [if_neg hb] at h
      rw [if_neg hb]
      by_cases hw : scan blankB s i < scan wordB s (scan blankB s i)
      · rw [if_pos hw] at h; cases h
      · rw [if_neg hw]
        have h2 : ((s[scan blankB s i].toNat : Int) == 124) = false := by simp; omega
        refine ⟨?_, rfl⟩
        simp only [tokAt, bt_eq hl]
        simp [ext_empty (Nat.le_of_not_lt hw), hl, h2, Nat.le_of_not_lt hw]
  · rw [dif_neg hl]
    have e : scan blankB s i = s.size := by omega
    refine ⟨?_, e⟩
    simp only [tokAt, e, scan_end (Nat.le_refl s.size)]
    simp
/-- the next token is a word or a bar; what stands behind it -/
theorem tok_cons {s : BA} {i : Nat} {t : BA} {a : Nat} {ws : List Wd} (hi : i ≤ s.size) (h : words s i = (t, a) :: ws) :
    (t = barT ∧ tokAt s i = ⟨ByteArray.empty, a, true, false⟩ ∧ words s (a + 1) = ws ∧ fin s (a + 1) = fin s i ∧ a + 1 ≤ s.size ∧ i ≤ a) ∨
    (t ≠ barT ∧ 0 < t.size ∧ tokAt s i = ⟨t, a, false, false⟩ ∧ words s (a + t.size) = ws ∧ fin s (a + t.size) = fin s i ∧ a + t.size ≤ s.size ∧ i ≤ a) := by
  have hj := scan_le blankB s i hi
  have hg := scan_ge blankB s i
  rw [words_eq s i hi] at h
  rw [fin_eq s i hi]
  by_cases hl : scan blankB s i < s.size
  · rw [dif_pos hl] at h
    rw [dif_pos hl]
    have hw2 := scan_le wordB s _ hj
    by_cases hb : s[scan blankB s i].toNat = 124
    · rw [if_pos hb] at h
      rw [if_pos hb]
      injection h with h1 h2
      injection h1 with h1 h3
      subst h1 h3
      refine .inl ⟨rfl, ?_, h2, rfl, by omega, hg⟩
      have e : scan wordB s (scan blankB s i) = scan blankB s i := scan_stop hl (wordB_bar hb)
      simp only [tokAt, e, bt_eq hl]
      simp [hl, hb]
    · rw [if_neg hb] at h
      rw [if_neg hb]
      by_cases hw : scan blankB s i < scan wordB s (scan blankB s i)
      · rw [if_pos hw] at h
        rw [if_pos hw]
        injection h with h1 h2
        injection h1 with h1 h3
        subst h3
        have hsz : t.size = scan wordB s (scan blankB s i) - scan blankB s i := by rw [← h1, ByteArray.size_extract]; omega
        have e : scan blankB s i + t.size = scan wordB s (scan blankB s i) := by omega
        refine .inr ⟨?_, by omega, ?_, by rw [e]; exact h2, by rw [e], by omega, hg⟩
        · intro ht
          have hc : wordB s[scan blankB s i] = true := (scan_lt_iff s _ hl).1 hw
          have h0 : t.data.toList.head? = some 124 := by rw [ht]; rfl
          rw [← h1] at h0
          have h4 : (s.extract (scan blankB s i) (scan wordB s (scan blankB s i))).data.toList = (s.data.toList.drop (scan blankB s i)).take (scan wordB s (scan blankB s i) - scan blankB s i) := by
            simp [ByteArray.data_extract, List.take_drop]
          rw [h4, drop_at s _ hl, show scan wordB s (scan blankB s i) - scan blankB s i = (scan wordB s (scan blankB s i) - scan blankB s i - 1) + 1 from by omega] at h0
          simp at h0
          rw [h0] at hc
          exact absurd hc (by decide)
        · simp only [tokAt]
          simp [h1]; omega
      · rw [if_neg hw] at h; cases h
  · rw [dif_neg hl] at h; cases h

/-- a stage -/
structure Stg where
  kind : Int
  n : Int
  names : List BA
/-- what reading gives -/
inductive Rd (α : Type) where
  | bad (at_ : Nat)
  | ok (x : α) (rest : List Wd)
def byT : BA := tx [98, 121]
/-- does a text stand in a list? -/
def hasT (l : List BA) (x : BA) : Bool := l.any fun y => decide (y = x)
theorem hasT_iff (l : List BA) (x : BA) : hasT l x = true ↔ x ∈ l := by simp [hasT]
/-- names, one behind the other: at least few, at most many in all -/
def namesS (odd : Bool) (F few many : Nat) : List BA → List Wd → Rd (List BA)
  | acc, [] => if many ≤ acc.length then .ok acc [] else if odd = false ∧ few ≤ acc.length then .ok acc [] else .bad F
  | acc, (t, a) :: r =>
    if many ≤ acc.length then .ok acc ((t, a) :: r)
    else if t = barT ∧ few ≤ acc.length then .ok acc ((t, a) :: r)
    else if isName t = true ∧ hasT acc t = false then namesS odd F few many (acc ++ [t]) r else .bad a
def Rd.map {α β : Type} (f : α → β) : Rd α → Rd β
  | .bad a => .bad a
  | .ok x r => .ok (f x) r
/-- behind a '-' -/
def fallT (t : BA) : Bool := t.data.toList.head? == some 45
def nameT (t : BA) : BA := if fallT t then t.extract 1 t.size else t
def mayName (ahead : Option (List BA)) (t : BA) : Bool := isName t && (match ahead with | none => true | some l => hasT l t)
def lowOf (k : Int) : Int := (bnd k).1
/-- spans are laid in S3; here: what reads a number of a kind -/
def countOf (span : BA → Option Nat) (k : Int) (t : BA) : Option Nat := if k = 3 then span t else manyOf t (bnd k).2.1
/-- one stage, behind a table with a head (none: there is no table yet) -/
def stageS (span : BA → Option Nat) (odd : Bool) (F : Nat) (ahead : Option (List BA)) : List Wd → Rd Stg
  | [] => .bad F
  | (t, a) :: r =>
    if kindOf t = 0 ∨ (ahead.isSome = true ∧ kindOf t ≠ 9 ∧ kindOf t ≠ 10 ∧ kindOf t ≠ 13) then .bad a
    else if kindOf t = 1 then
      match r with
      | [] => .ok ⟨1, 0, []⟩ []
      | (t2, a2) :: r2 => if t2 = byT then (namesS odd F 1 1 [] r2).map (fun l => ⟨1, 0, l⟩) else .ok ⟨1, 0, []⟩ ((t2, a2) :: r2)
    else if kindOf t = 13 then
      match r with
      | [] => .bad F
      | (t2, a2) :: r2 => if mayName ahead (nameT t2) = true then .ok ⟨13, if fallT t2 then 1 else 0, [nameT t2]⟩ r2 else .bad a2
    else if 0 < (bnd (kindOf t)).1 then
      match r with
      | [] => .bad F
      | (t2, a2) :: r2 =>
        match countOf span (kindOf t) t2 with
        | none => .bad a2
        | some n => (namesS odd F (bnd (kindOf t)).2.2.1.toNat (bnd (kindOf t)).2.2.2.toNat [] r2).map (fun l => ⟨kindOf t, n, l⟩)
    else (namesS odd F (bnd (kindOf t)).2.2.1.toNat (bnd (kindOf t)).2.2.2.toNat [] r).map (fun l => ⟨kindOf t, 0, l⟩)
/-- does a stage make a table; its head -/
def tableB (k : Int) : Bool := decide (k ≤ 8) || decide (k = 12)
def countT : BA := tx [99, 111, 117, 110, 116]
def timeT : BA := tx [116, 105, 109, 101]
def headS (x : Stg) : List BA :=
  if x.kind = 1 ∨ x.kind = 2 then x.names ++ [countT] else if x.kind = 3 then [timeT, countT] else if x.kind = 12 then x.names else [kwL.getD x.kind.toNat ByteArray.empty]
inductive PR where
  | ok (l : List Stg)
  | many (at_ : Nat)
  | stage (at_ : Nat)
/-- stages, one behind the other (fuel: as many words as there are, and one) -/
def parseF (span : BA → Option Nat) (odd : Bool) (F : Nat) : Nat → List Stg → Option (List BA) → List Wd → PR
  | 0, _, _, _ => .stage F
  | f + 1, out, ahead, ws =>
    match (match ws with | (t, a) :: _ => if out.length = 8 ∧ t ≠ barT then some a else none | [] => none) with
    | some a => .many a
    | none =>
      match stageS span odd F ahead ws with
      | .bad a => .stage a
      | .ok x [] => if odd then .stage F else .ok (out ++ [x])
      | .ok x ((t, a) :: r) => if t = barT then parseF span odd F f (out ++ [x]) (if tableB x.kind then some (headS x) else ahead) r else .stage a
def parseS (span : BA → Option Nat) (s : BA) : PR :=
  if words s 0 = [] ∧ fin s 0 = s.size then .ok [] else parseF span (decide (fin s 0 < s.size)) (fin s 0) (s.size + 1) [] none (words s 0)
end Go.Proofs.YtjcnjpljngabfaaGreatDoor
