/- Pure words of the proofs: texts, words of a text, stages as data. Nothing of the program. -/
import Derived.Test.YtjcnjpljngabfaaGreatDoorWWords
namespace Go.Proofs.YtjcnjpljngabfaaGreatDoor

abbrev BA := ByteArray
/-- a text of bytes given one by one -/
def tx (l : List UInt8) : BA := ⟨l.toArray⟩
/-- where the bytes that p takes end, from k on -/
def scan (p : UInt8 → Bool) (s : BA) (k : Nat) : Nat := k + ((s.data.toList.drop k).takeWhile p).length
theorem drop_at (s : BA) (k : Nat) (h : k < s.size) : s.data.toList.drop k = s[k] :: s.data.toList.drop (k + 1) := by
  rw [List.drop_eq_getElem_cons (by simpa using h)]; rfl
theorem scan_step {p : UInt8 → Bool} {s : BA} {k : Nat} (h : k < s.size) (hp : p s[k] = true) : scan p s (k + 1) = scan p s k := by
  unfold scan; rw [drop_at s k h, List.takeWhile_cons, if_pos hp, List.length_cons]; omega
theorem scan_stop {p : UInt8 → Bool} {s : BA} {k : Nat} (h : k < s.size) (hp : p s[k] = false) : scan p s k = k := by
  unfold scan; rw [drop_at s k h, List.takeWhile_cons, if_neg (by simp [hp])]; simp
theorem scan_end {p : UInt8 → Bool} {s : BA} {k : Nat} (h : s.size ≤ k) : scan p s k = k := by
  unfold scan; rw [List.drop_of_length_le (by simpa using h)]; simp
theorem scan_ge (p : UInt8 → Bool) (s : BA) (k : Nat) : k ≤ scan p s k := by unfold scan; omega
theorem scan_le (p : UInt8 → Bool) (s : BA) (k : Nat) (h : k ≤ s.size) : scan p s k ≤ s.size := by
  unfold scan
  have h1 := (List.takeWhile_sublist p (l := s.data.toList.drop k)).length_le
  have h2 : (s.data.toList.drop k).length = s.size - k := by rw [List.length_drop]; rfl
  omega
theorem ext_nil {s : BA} {j m : Nat} (hm : m ≤ s.size) : (s.extract j m).toList = [] ↔ m ≤ j := by
  rw [← List.length_eq_zero_iff, show (s.extract j m).toList.length = (s.extract j m).size from by rw [ByteArray.toList_eq]; rfl, ByteArray.size_extract]; omega

theorem drop_takeWhile {α : Type} (p : α → Bool) : ∀ l : List α, l.drop (l.takeWhile p).length = l.dropWhile p
  | [] => rfl
  | a :: l => by
    rw [List.takeWhile_cons, List.dropWhile_cons]
    cases h : p a with
    | true => simpa using drop_takeWhile p l
    | false => simp
theorem scan_stops {p : UInt8 → Bool} {s : BA} {i : Nat} (h : scan p s i < s.size) : p (s[scan p s i]) = false := by
  have h3 := drop_at s (scan p s i) h
  rw [show s.data.toList.drop (scan p s i) = (s.data.toList.drop i).dropWhile p from by rw [← drop_takeWhile, List.drop_drop]; rfl] at h3
  have h4 := List.head?_dropWhile_not p (s.data.toList.drop i)
  rw [h3] at h4
  simpa using h4
theorem scan_scan (p : UInt8 → Bool) (s : BA) (i : Nat) : scan p s (scan p s i) = scan p s i := by
  by_cases h : scan p s i < s.size
  · exact scan_stop h (scan_stops h)
  · exact scan_end (by omega)
theorem sz_toList (s : BA) : s.toList.length = s.size := by rw [ByteArray.toList_eq]; rfl
theorem tl_nil {s : BA} (h : s.size = 0) : s.toList = [] := List.eq_nil_of_length_eq_zero (by rw [sz_toList]; exact h)
theorem tl_ne {s : BA} (h : 0 < s.size) : s.toList ≠ [] := fun e => by have := sz_toList s; rw [e] at this; simp at this; omega
theorem tl_empty {s : BA} (h : 0 < s.size) : s.toList.isEmpty = false := by have := tl_ne h; cases hl : s.toList with | nil => exact absurd hl this | cons => rfl
theorem byte_cases {P : UInt8 → Prop} [∀ c, Decidable (P c)] (h : (List.range 256).all (fun n => decide (P (UInt8.ofNat n))) = true) : ∀ c, P c := fun c => by
  have := List.all_eq_true.1 h c.toNat (List.mem_range.2 c.toNat_lt)
  simpa using this

/-! words of a text of stages -/
def wordB (c : UInt8) : Bool := decide (32 < c.toNat) && decide (c.toNat ≤ 126) && !decide (c.toNat = 124)
def blankB (c : UInt8) : Bool := decide (c.toNat = 32)
/-- a word, and where it begins; a bar is one -/
abbrev Wd := BA × Nat
def barT : BA := tx [124]
def wordsF : Nat → BA → Nat → List Wd
  | 0, _, _ => []
  | f + 1, s, i =>
    let j := scan blankB s i
    if h : j < s.size then
      if s[j].toNat = 124 then (barT, j) :: wordsF f s (j + 1)
      else if j < scan wordB s j then (s.extract j (scan wordB s j), j) :: wordsF f s (scan wordB s j) else []
    else []
/-- the words from a place on, up to the end or to a byte that may stand nowhere -/
def words (s : BA) (i : Nat) : List Wd := wordsF (s.size + 1 - i) s i
def finF : Nat → BA → Nat → Nat
  | 0, s, _ => s.size
  | f + 1, s, i =>
    let j := scan blankB s i
    if h : j < s.size then
      if s[j].toNat = 124 then finF f s (j + 1)
      else if j < scan wordB s j then finF f s (scan wordB s j) else j
    else s.size
/-- where they end -/
def fin (s : BA) (i : Nat) : Nat := finF (s.size + 1 - i) s i
theorem wordsF_more (s : BA) : ∀ f f' i, i ≤ s.size → s.size + 1 - i ≤ f → s.size + 1 - i ≤ f' → wordsF f s i = wordsF f' s i := by
  intro f
  induction f with
  | zero => intro f' i hi h; omega
  | succ f ih =>
    intro f' i hi h h'
    obtain ⟨f', rfl⟩ : ∃ m, f' = m + 1 := ⟨f' - 1, by omega⟩
    have hg := scan_ge blankB s i
    simp only [wordsF]
    split
    · rename_i hj
      have hw := scan_le wordB s _ (Nat.le_of_lt hj)
      split
      · rw [ih f' _ (by omega) (by omega) (by omega)]
      · split
        · rw [ih f' _ hw (by omega) (by omega)]
        · rfl
    · rfl
theorem finF_more (s : BA) : ∀ f f' i, i ≤ s.size → s.size + 1 - i ≤ f → s.size + 1 - i ≤ f' → finF f s i = finF f' s i := by
  intro f
  induction f with
  | zero => intro f' i hi h; omega
  | succ f ih =>
    intro f' i hi h h'
    obtain ⟨f', rfl⟩ : ∃ m, f' = m + 1 := ⟨f' - 1, by omega⟩
    have hg := scan_ge blankB s i
    simp only [finF]
    split
    · rename_i hj
      have hw := scan_le wordB s _ (Nat.le_of_lt hj)
      split
      · rw [ih f' _ (by omega) (by omega) (by omega)]
      · split
        · rw [ih f' _ hw (by omega) (by omega)]
        · rfl
    · rfl
theorem words_eq (s : BA) (i : Nat) (hi : i ≤ s.size) : words s i =
    (if h : scan blankB s i < s.size then
      if s[scan blankB s i].toNat = 124 then (barT, scan blankB s i) :: words s (scan blankB s i + 1)
      else if scan blankB s i < scan wordB s (scan blankB s i) then (s.extract (scan blankB s i) (scan wordB s (scan blankB s i)), scan blankB s i) :: words s (scan wordB s (scan blankB s i)) else []
    else []) := by
  have hg := scan_ge blankB s i
  rw [words, show s.size + 1 - i = (s.size - i) + 1 from by omega, wordsF]
  split
  · rename_i hj
    have hw := scan_le wordB s _ (Nat.le_of_lt hj)
    split
    · rw [words, wordsF_more s (s.size - i) _ _ (by omega) (by omega) (Nat.le_refl _)]
    · split
      · rw [words, wordsF_more s (s.size - i) _ _ hw (by omega) (Nat.le_refl _)]
      · rfl
  · rfl
theorem fin_eq (s : BA) (i : Nat) (hi : i ≤ s.size) : fin s i =
    (if h : scan blankB s i < s.size then
      if s[scan blankB s i].toNat = 124 then fin s (scan blankB s i + 1)
      else if scan blankB s i < scan wordB s (scan blankB s i) then fin s (scan wordB s (scan blankB s i)) else scan blankB s i
    else s.size) := by
  have hg := scan_ge blankB s i
  rw [fin, show s.size + 1 - i = (s.size - i) + 1 from by omega, finF]
  split
  · rename_i hj
    have hw := scan_le wordB s _ (Nat.le_of_lt hj)
    split
    · rw [fin, finF_more s (s.size - i) _ _ (by omega) (by omega) (Nat.le_refl _)]
    · split
      · rw [fin, finF_more s (s.size - i) _ _ hw (by omega) (Nat.le_refl _)]
      · rfl
  · rfl
theorem wordB_bar {c : UInt8} (h : c.toNat = 124) : wordB c = false := by simp [wordB, h]
/-- a word behind the blanks -/
theorem scan_lt_iff (s : BA) (j : Nat) (hj : j < s.size) : j < scan wordB s j ↔ wordB s[j] = true := by
  constructor
  · intro h
    cases hc : wordB s[j] with
    | true => rfl
    | false => rw [scan_stop hj hc] at h; omega
  · intro h
    rw [← scan_step hj h]
    have := scan_ge wordB s (j + 1)
    omega
theorem fin_le (s : BA) : ∀ n i, s.size - i ≤ n → i ≤ s.size → i ≤ fin s i ∧ fin s i ≤ s.size := by
  intro n
  induction n with
  | zero =>
    intro i hn hi
    have hg := scan_ge blankB s i
    rw [fin_eq s i hi, dif_neg (by omega)]; omega
  | succ n ih =>
    intro i hn hi
    have hg := scan_ge blankB s i
    rw [fin_eq s i hi]
    split
    · rename_i hj
      have hw := scan_le wordB s _ (Nat.le_of_lt hj)
      split
      · have := ih (scan blankB s i + 1) (by omega) (by omega); omega
      · split
        · have := ih (scan wordB s (scan blankB s i)) (by omega) hw; omega
        · omega
    · omega

/-! names -/
def digitB (c : UInt8) : Bool := decide (48 ≤ c.toNat) && decide (c.toNat ≤ 57)
def letterB (c : UInt8) : Bool := (decide (65 ≤ c.toNat) && decide (c.toNat ≤ 90)) || (decide (97 ≤ c.toNat) && decide (c.toNat ≤ 122)) || decide (c.toNat = 95)
def partB (c : UInt8) : Bool := letterB c || digitB c || decide (c.toNat = 46) || decide (c.toNat = 45) || decide (c.toNat = 91) || decide (c.toNat = 93)
/-- a text is a field's name -/
def isName (s : BA) : Bool := decide (1 ≤ s.size) && decide (s.size ≤ 64) && s.data.toList.all partB && (s.data.toList.head?.map letterB).getD false
theorem takeWhile_all {α : Type} (p : α → Bool) : ∀ l : List α, (l.takeWhile p).length = l.length ↔ l.all p = true
  | [] => by simp
  | a :: l => by
    rw [List.takeWhile_cons, List.all_cons]
    cases h : p a with
    | true => simpa using takeWhile_all p l
    | false => simp
theorem scan_all (p : UInt8 → Bool) (s : BA) : scan p s 0 = s.size ↔ s.data.toList.all p = true := by
  rw [← takeWhile_all]; unfold scan; simp only [List.drop_zero, Nat.zero_add]; rfl
theorem isName_no {s : BA} (h : s.size < 1 ∨ 64 < s.size ∨ scan partB s 0 ≠ s.size) : isName s = false := by
  rw [Bool.eq_false_iff]; intro hn
  simp only [isName, Bool.and_eq_true, decide_eq_true_eq] at hn
  have := (scan_all partB s).2 hn.1.2
  omega
theorem isName_yes {s : BA} (h0 : 0 < s.size) (h1 : s.size ≤ 64) (h2 : scan partB s 0 = s.size) : isName s = letterB s[0] := by
  have h3 := (scan_all partB s).1 h2
  have h4 : s.data.toList.head? = some s[0] := by have := drop_at s 0 h0; simp at this; rw [this]; rfl
  simp [isName, h3, h4, h1]; omega

/-! stages -/
/-- how the kinds of stages are called -/
def kwL : List BA := [tx [], tx [99, 111, 117, 110, 116], tx [116, 111, 112], tx [116, 105, 109, 101, 108, 105, 110, 101], tx [115, 117, 109], tx [109, 105, 110], tx [109, 97, 120], tx [109, 101, 97, 110], tx [114, 97, 110, 107], tx [104, 101, 97, 100], tx [108, 97, 115, 116], tx [117, 110, 105, 113, 117, 101], tx [102, 105, 101, 108, 100, 115], tx [115, 111, 114, 116]]
/-- the bounds of a kind's number (0, 0: it has none), and of how many names it has -/
def bnd (k : Int) : Int × Int × Int × Int :=
  if k = 1 then (0, 0, 0, 1) else if k = 2 then (1, 1000000, 1, 1) else if k = 3 then (1, 253402300799999, 0, 0) else if k = 8 then (1, 100, 1, 1)
  else if k = 9 ∨ k = 10 then (1, 1000000, 0, 0) else if k = 12 then (0, 0, 1, 64) else if k = 13 then (0, 1, 1, 1) else (0, 0, 1, 1)
/-- which of some words, counted from k on, a text is; 0: none -/
def kindL : List BA → Nat → BA → Nat
  | [], _, _ => 0
  | x :: l, k, s => if x.data.toList = s.data.toList then k else kindL l (k + 1) s
def kindOf (s : BA) : Nat := kindL (kwL.drop 1) 1 s
theorem kind_step {k : Nat} (h : k < 14) (s : BA) : kindL (kwL.drop k) k s = if (kwL.getD k ByteArray.empty).toList = s.toList then k else kindL (kwL.drop (k + 1)) (k + 1) s := by
  rw [List.drop_eq_getElem_cons (by simpa [kwL] using h), kindL, List.getD_eq_getElem?_getD, List.getElem?_eq_getElem (by simpa [kwL] using h), ByteArray.toList_eq, ByteArray.toList_eq]; rfl
/-- the number that digits say -/
def numL (l : List UInt8) : Nat := l.foldl (fun n c => 10 * n + (c.toNat - 48)) 0
theorem numL_snoc (l : List UInt8) (c : UInt8) : numL (l ++ [c]) = 10 * numL l + (c.toNat - 48) := by simp [numL]
theorem numL_lt : ∀ n, ∀ l : List UInt8, l.length = n → l.all digitB = true → numL l < 10 ^ n := by
  intro n
  induction n with
  | zero => intro l hl _; rw [List.eq_nil_of_length_eq_zero hl]; decide
  | succ n ih =>
    intro l hl hd
    obtain ⟨r, c, rfl⟩ : ∃ r c, l = r ++ [c] := ⟨l.dropLast, l.getLast (by intro e; simp [e] at hl), (List.dropLast_concat_getLast _).symm⟩
    simp only [List.length_append, List.length_singleton] at hl
    simp only [List.all_append, List.all_cons, List.all_nil, Bool.and_true, Bool.and_eq_true] at hd
    have h1 := ih r (by omega) hd.1
    have h2 := hd.2
    simp [digitB] at h2
    rw [numL_snoc, Nat.pow_succ]
    omega
theorem take_snoc (s : BA) (k : Nat) (h : k < s.size) : s.data.toList.take (k + 1) = s.data.toList.take k ++ [s[k]] := by
  rw [List.take_succ_eq_append_getElem (by simpa using h)]; rfl
theorem take_all (s : BA) : s.data.toList.take s.size = s.data.toList := List.take_of_length_le (by simp)
theorem not_all_at (s : BA) (p : UInt8 → Bool) (k : Nat) (h : k < s.size) (hp : p s[k] = false) : s.data.toList.all p = false := by
  rw [Bool.eq_false_iff]; intro ha
  have := List.all_eq_true.1 ha s[k] (Array.mem_toList_iff.2 (Array.getElem_mem (by simpa using h)))
  rw [hp] at this; cases this
/-- a number in digits, the first one not 0, at most 7 of them, at most m -/
def manyOf (s : BA) (m : Int) : Option Nat :=
  if 1 ≤ s.size ∧ s.size ≤ 7 ∧ s.data.toList.head? ≠ some 48 ∧ s.data.toList.all digitB = true ∧ (numL s.data.toList : Int) ≤ m then some (numL s.data.toList) else none
end Go.Proofs.YtjcnjpljngabfaaGreatDoor
