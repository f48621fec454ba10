/- Pure words: spans (chapter 12). -/
import Derived.Test.YtjcnjpljngabfaaGreatDoorS2
namespace Go.Proofs.YtjcnjpljngabfaaGreatDoor
def dT : BA := tx [100]
def hT : BA := tx [104]
def msT : BA := tx [109, 115]
def mT : BA := tx [109]
def sT : BA := tx [115]
def unitsL : List (BA × Nat) := [(dT, 86400000), (hT, 3600000), (msT, 1), (mT, 60000), (sT, 1000)]
def preB (t : BA) (l : List UInt8) : Bool := t.data.toList.isPrefixOf l
/-- the unit with which a text goes on: its length in milliseconds, its letters -/
def unitOf (l : List UInt8) : Option (BA × Nat) := unitsL.find? fun u => preB u.1 l
def spanF : Nat → List UInt8 → Nat → Nat → Option Nat
  | 0, _, _, _ => none
  | f + 1, l, sum, last =>
    if l.takeWhile digitB = [] ∨ 15 < (l.takeWhile digitB).length ∨ l.head? = some 48 then none
    else match unitOf (l.dropWhile digitB) with
      | none => none
      | some u =>
        if last ≤ u.2 ∨ (253402300799999 - sum) / u.2 < numL (l.takeWhile digitB) then none
        else if (l.dropWhile digitB).drop u.1.size = [] then some (sum + numL (l.takeWhile digitB) * u.2)
        else spanF f ((l.dropWhile digitB).drop u.1.size) (sum + numL (l.takeWhile digitB) * u.2) u.2
def spanOf (s : BA) : Option Nat := spanF (s.size + 1) s.data.toList 0 253402300800000
theorem scan_take (p : UInt8 → Bool) (s : BA) (i : Nat) (_hi : i ≤ s.size) : (s.data.toList.drop i).takeWhile p = (s.extract i (scan p s i)).data.toList := by
  have h1 : (s.data.toList.drop i).takeWhile p = (s.data.toList.drop i).take ((s.data.toList.drop i).takeWhile p).length := (List.prefix_iff_eq_take.1 (List.takeWhile_prefix p))
  rw [h1, ByteArray.data_extract]
  simp [scan]
theorem scan_drop (p : UInt8 → Bool) (s : BA) (i : Nat) : (s.data.toList.drop i).dropWhile p = s.data.toList.drop (scan p s i) := by
  rw [← drop_takeWhile, List.drop_drop]; rfl
theorem ext_len (s : BA) (i j : Nat) (hj : j ≤ s.size) : (s.extract i j).data.toList.length = j - i := by
  rw [show (s.extract i j).data.toList.length = (s.extract i j).size from rfl, ByteArray.size_extract]; omega
theorem preB_le {t s : BA} {j : Nat} (h : preB t (s.data.toList.drop j) = true) (hj : j ≤ s.size) : j + t.size ≤ s.size := by
  have h2 := (List.isPrefixOf_iff_prefix.1 h).length_le
  rw [List.length_drop] at h2
  have h5 : t.size ≤ s.size - j := h2
  omega
theorem unitOf_spec {l : List UInt8} {u : BA × Nat} (h : unitOf l = some u) : preB u.1 l = true ∧ 1 ≤ u.2 ∧ u.2 ≤ 86400000 ∧ 1 ≤ u.1.size := by
  have h1 := List.find?_some h
  have h2 := List.mem_of_find?_eq_some h
  simp only [unitsL, List.mem_cons, List.not_mem_nil, or_false] at h2
  rcases h2 with rfl | rfl | rfl | rfl | rfl <;> exact ⟨h1, by decide, by decide, by decide⟩
/-- one round, by places -/
theorem spanF_step (f : Nat) (s : BA) (i sum last : Nat) (hi : i ≤ s.size) : spanF (f + 1) (s.data.toList.drop i) sum last =
    if scan digitB s i = i ∨ 15 < scan digitB s i - i ∨ (s.data.toList.drop i).head? = some 48 then none
    else match unitOf (s.data.toList.drop (scan digitB s i)) with
      | none => none
      | some u =>
        if last ≤ u.2 ∨ (253402300799999 - sum) / u.2 < numL (s.extract i (scan digitB s i)).data.toList then none
        else if scan digitB s i + u.1.size = s.size then some (sum + numL (s.extract i (scan digitB s i)).data.toList * u.2)
        else spanF f (s.data.toList.drop (scan digitB s i + u.1.size)) (sum + numL (s.extract i (scan digitB s i)).data.toList * u.2) u.2 := by
  have hj := scan_le digitB s i hi
  have hg := scan_ge digitB s i
  rw [spanF, scan_take _ _ _ hi, scan_drop]
  have e1 : ((s.extract i (scan digitB s i)).data.toList = [] ∨ 15 < (s.extract i (scan digitB s i)).data.toList.length ∨ (s.data.toList.drop i).head? = some 48) ↔ (scan digitB s i = i ∨ 15 < scan digitB s i - i ∨ (s.data.toList.drop i).head? = some 48) := by
    rw [← List.length_eq_zero_iff, ext_len _ _ _ hj]
    constructor
    · rintro (h | h)
      · exact .inl (by omega)
      · exact .inr h
    · rintro (h | h)
      · exact .inl (by omega)
      · exact .inr h
  by_cases c : scan digitB s i = i ∨ 15 < scan digitB s i - i ∨ (s.data.toList.drop i).head? = some 48
  · rw [if_pos (e1.2 c), if_pos c]
  · rw [if_neg (fun h => c (e1.1 h)), if_neg c]
    cases hu : unitOf (s.data.toList.drop (scan digitB s i)) with
    | none => rfl
    | some u =>
      have hl := preB_le (unitOf_spec hu).1 hj
      dsimp only
      have e2 : (s.data.toList.drop (scan digitB s i)).drop u.1.size = [] ↔ scan digitB s i + u.1.size = s.size := by
        rw [List.drop_drop, ← List.length_eq_zero_iff, List.length_drop, show s.data.toList.length = s.size from rfl]; omega
      rw [List.drop_drop] at e2 ⊢
      by_cases c2 : scan digitB s i + u.1.size = s.size
      · rw [if_pos (e2.2 c2), if_pos c2]
      · rw [if_neg (fun h => c2 (e2.1 h)), if_neg c2]
/-- a span's number, its error -/
def spanN (s : BA) : Int := ((spanOf s).getD 0 : Nat)
def spanE (s : BA) : Int := if (spanOf s).isSome then 0 else 121
theorem spanN_none {s : BA} (h : spanOf s = none) : (0 : Int) = spanN s := by rw [spanN, h]; rfl
theorem spanE_none {s : BA} (h : spanOf s = none) : (121 : Int) = spanE s := by rw [spanE, h]; rfl
theorem spanN_some {s : BA} {n : Nat} (h : spanOf s = some n) : (n : Int) = spanN s := by rw [spanN, h]; rfl
theorem spanE_some {s : BA} {n : Nat} (h : spanOf s = some n) : (0 : Int) = spanE s := by rw [spanE, h]; rfl
end Go.Proofs.YtjcnjpljngabfaaGreatDoor
