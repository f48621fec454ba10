/- Pure words: which stages are right, how they are written (chapter 24); what is written is read again; what is read is right. -/
import Derived.Test.YtjcnjpljngabfaaGreatDoorS7
import Derived.Lib.ItoaNum
namespace Go.Proofs.YtjcnjpljngabfaaGreatDoor
open Go.Proofs.YtjcnjpljngabfaaGreatDoorW.PrintWords
/-! right stages -/
def namesOk : List BA → List BA → Bool
  | _, [] => true
  | acc, x :: l => isName x && !hasT acc x && namesOk (acc ++ [x]) l
def goodS (x : Stg) : Bool := decide (1 ≤ x.kind) && decide (x.kind ≤ 13) && decide ((bnd x.kind).1 ≤ x.n) && decide (x.n ≤ (bnd x.kind).2.1) && decide ((bnd x.kind).2.2.1 ≤ x.names.length) && decide ((x.names.length : Int) ≤ (bnd x.kind).2.2.2) && namesOk [] x.names
def behindS (ahead : Option (List BA)) (x : Stg) : Bool :=
  match ahead with
  | none => true
  | some l => decide (x.kind = 9) || decide (x.kind = 10) || (decide (x.kind = 13) && hasT l (x.names.headD ByteArray.empty))
def mayS (ahead : Option (List BA)) (x : Stg) : Bool := goodS x && behindS ahead x
def nextH (ahead : Option (List BA)) (x : Stg) : Option (List BA) := if tableB x.kind then some (headS x) else ahead
def rightF : Option (List BA) → List Stg → Bool
  | _, [] => true
  | ah, x :: l => mayS ah x && rightF (nextH ah x) l
def rightS (l : List Stg) : Bool := decide (l.length ≤ 8) && rightF none l
/-! how they are written -/
def unitsP : List (BA × Nat) := [(dT, 86400000), (hT, 3600000), (mT, 60000), (sT, 1000), (msT, 1)]
def spellF : List (BA × Nat) → Nat → List UInt8
  | [], _ => []
  | u :: l, n => if u.2 ≤ n then Lib.decDigits (n / u.2) ++ (u.1.data.toList ++ spellF l (n % u.2)) else spellF l n
def spellT (n : Nat) : BA := tx (spellF unitsP n)
def numT (n : Nat) : BA := tx (Lib.decDigits n)
def tailT (x : Stg) : List BA :=
  if x.kind = 3 then spellT x.n.toNat :: x.names
  else if x.kind = 1 ∧ 0 < x.names.length then byT :: x.names
  else if x.kind = 13 ∧ x.n = 1 then [tx (45 :: (x.names.headD ByteArray.empty).data.toList)]
  else if x.kind ≠ 13 ∧ 0 < x.n then numT x.n.toNat :: x.names
  else x.names
def toksS (x : Stg) : List BA := kwL.getD x.kind.toNat ByteArray.empty :: tailT x
def stepsT : List Stg → List BA
  | [] => []
  | x :: l => toksS x ++ l.flatMap fun y => barT :: toksS y
/-- words, each behind so many blanks; blanks at the end -/
def glue : List (Nat × BA) → Nat → List UInt8
  | [], e => List.replicate e 32
  | (n, t) :: r, e => List.replicate n 32 ++ (t.data.toList ++ glue r e)
def gapsT : List BA → List (Nat × BA)
  | [] => []
  | t :: r => (0, t) :: r.map fun u => (1, u)
def printL (l : List Stg) : List UInt8 := glue (gapsT (stepsT l)) 0
def printS (l : List Stg) : BA := tx (printL l)

/-! words of what is written -/
def okT (t : BA) : Prop := t = barT ∨ (0 < t.size ∧ t.data.toList.all wordB = true)
theorem tx_list (l : List UInt8) : (tx l).data.toList = l := by simp [tx]
theorem tx_size (l : List UInt8) : (tx l).size = l.length := by simp [tx, ByteArray.size]
theorem blanks_len (l : List UInt8) (h : ∀ c ∈ l.head?, blankB c = false) : ∀ n, ((List.replicate n 32 ++ l).takeWhile blankB).length = n
  | 0 => by
    cases l with
    | nil => rfl
    | cons c l => rw [List.replicate_zero, List.nil_append, List.takeWhile_cons, if_neg (by rw [h c (by simp)]; decide)]; rfl
  | n + 1 => by
    rw [List.replicate_succ, List.cons_append, List.takeWhile_cons, if_pos (by decide), List.length_cons, blanks_len l h n]
theorem word_len (l : List UInt8) (h : ∀ c ∈ l.head?, wordB c = false) : ∀ t : List UInt8, t.all wordB = true → ((t ++ l).takeWhile wordB).length = t.length
  | [], _ => by
    cases l with
    | nil => rfl
    | cons c l => rw [List.nil_append, List.takeWhile_cons, if_neg (by rw [h c (by simp)]; decide)]
  | a :: t, ha => by
    rw [List.all_cons, Bool.and_eq_true] at ha
    rw [List.cons_append, List.takeWhile_cons, if_pos ha.1, List.length_cons, word_len l h t ha.2, List.length_cons]
theorem wordB_32 : wordB 32 = false := by decide
theorem wordB_ne {c : UInt8} (h : wordB c = true) : blankB c = false ∧ c.toNat ≠ 124 := by
  simp [wordB] at h; simp [blankB]; omega
theorem glue_head (r : List (Nat × BA)) (e : Nat) (h : ∀ x ∈ r.head?, 1 ≤ x.1) : ∀ c ∈ (glue r e).head?, wordB c = false := by
  cases r with
  | nil => intro c hc; cases e with
    | zero => simp [glue] at hc
    | succ e => simp [glue, List.replicate_succ] at hc; subst hc; exact wordB_32
  | cons x r =>
    obtain ⟨n, t⟩ := x
    intro c hc
    have h1 : 1 ≤ n := h (n, t) (by simp)
    obtain ⟨m, rfl⟩ : ∃ m, n = m + 1 := ⟨n - 1, by omega⟩
    simp [glue, List.replicate_succ] at hc; subst hc; exact wordB_32
theorem drop_len (s : BA) (i : Nat) : (s.data.toList.drop i).length = s.size - i := by rw [List.length_drop]; rfl
theorem words_glue (s : BA) : ∀ (r : List (Nat × BA)) (e i : Nat), s.data.toList.drop i = glue r e → i ≤ s.size → (∀ x ∈ r, okT x.2) → (∀ x ∈ r.tail, 1 ≤ x.1) → (words s i).map Prod.fst = r.map Prod.snd ∧ fin s i = s.size
  | [], e, i, hd, hi, _, _ => by
    have h1 : scan blankB s i = s.size := by
      have h2 := blanks_len [] (by simp) e
      have h3 := drop_len s i
      rw [hd, glue, List.length_replicate] at h3
      rw [List.append_nil] at h2
      unfold scan; rw [hd, glue, h2]; omega
    rw [words_eq s i hi, fin_eq s i hi, dif_neg (by omega), dif_neg (by omega)]
    exact ⟨rfl, rfl⟩
  | (n, t) :: r, e, i, hd, hi, hok, hg => by
    rw [glue] at hd
    have hl := drop_len s i
    rw [hd] at hl
    simp only [List.length_append, List.length_replicate] at hl
    have htl : t.data.toList.length = t.size := rfl
    obtain ⟨c, t', ht, hc⟩ : ∃ c t', t.data.toList = c :: t' ∧ blankB c = false := by
      rcases hok (n, t) (by simp) with h | ⟨h0, h⟩
      · exact ⟨124, [], by rw [show t = barT from h]; rfl, by decide⟩
      · cases hx : t.data.toList with
        | nil => rw [hx] at htl; simp at htl; have h0 : 0 < t.size := h0; omega
        | cons c t' =>
          have h : t.data.toList.all wordB = true := h
          rw [hx, List.all_cons, Bool.and_eq_true] at h
          exact ⟨c, t', rfl, (wordB_ne h.1).1⟩
    have hts : 0 < t.size := by rw [← htl, ht]; simp
    have h1 : scan blankB s i = i + n := by
      unfold scan; rw [hd, blanks_len _ (by rw [ht]; simp [hc])]
    have hdj : s.data.toList.drop (i + n) = t.data.toList ++ glue r e := by
      rw [← List.drop_drop, hd, List.drop_left' (by simp)]
    have hj : i + n < s.size := by omega
    have hsj : s[i + n] = c := by
      have := drop_at s (i + n) hj
      rw [hdj, ht] at this
      injection this with this; exact this.symm
    have hk : ∀ x ∈ r.tail, 1 ≤ x.1 := fun x hx => hg x (List.mem_of_mem_tail hx)
    have hk2 : ∀ x ∈ r, okT x.2 := fun x hx => hok x (List.mem_cons_of_mem _ hx)
    rw [words_eq s i hi, fin_eq s i hi, h1, dif_pos hj, dif_pos hj, hsj]
    by_cases hb : t = barT
    · subst hb
      have hc1 : c = 124 := by
        have : barT.data.toList = [124] := rfl
        rw [this] at ht; injection ht with ht; exact ht.symm
      have ih := words_glue s r e (i + n + 1) (by rw [← List.drop_drop, hdj]; rfl) (by omega) hk2 hk
      rw [if_pos (by rw [hc1]; rfl), if_pos (by rw [hc1]; rfl)]
      exact ⟨by rw [List.map_cons, ih.1]; rfl, ih.2⟩
    · rcases hok (n, t) (by simp) with h | ⟨_, h⟩
      · exact absurd h hb
      have hw := word_len (glue r e) (glue_head r e (fun x hx => hg x (by
        cases r with
        | nil => simp at hx
        | cons y r => simp at hx; subst hx; simp))) t.data.toList h
      have h2 : scan wordB s (i + n) = i + n + t.size := by unfold scan; rw [hdj, hw]; rfl
      have hc1 : wordB c = true := by
        have h : t.data.toList.all wordB = true := h
        rw [ht, List.all_cons, Bool.and_eq_true] at h; exact h.1
      have hex : s.extract (i + n) (i + n + t.size) = t := by
        refine ByteArray.ext (Array.toList_inj.1 ?_)
        have h4 : (s.extract (i + n) (i + n + t.size)).data.toList = (s.data.toList.drop (i + n)).take (i + n + t.size - (i + n)) := by
          simp [ByteArray.data_extract, List.take_drop]
        rw [h4, hdj, show i + n + t.size - (i + n) = t.data.toList.length by rw [htl]; omega, List.take_left']
        rfl
      have ih := words_glue s r e (i + n + t.size) (by rw [← List.drop_drop, hdj, List.drop_left' htl]) (by omega) hk2 hk
      rw [if_neg (wordB_ne hc1).2, if_neg (wordB_ne hc1).2, h2, if_pos (by omega), if_pos (by omega), hex]
      exact ⟨by rw [List.map_cons, ih.1]; rfl, ih.2⟩
theorem glue_len : ∀ (r : List (Nat × BA)) (e : Nat), (∀ x ∈ r, okT x.2) → r.length ≤ (glue r e).length
  | [], e, _ => by simp
  | (n, t) :: r, e, h => by
    have h1 := glue_len r e (fun x hx => h x (List.mem_cons_of_mem _ hx))
    have h2 : 0 < t.data.toList.length := by
      rcases h (n, t) (by simp) with h | ⟨h, _⟩
      · rw [show t = barT from h]; decide
      · exact h
    simp only [glue, List.length_append, List.length_cons]; omega
/-! names that are written are read -/
def txt (ws : List Wd) : List BA := ws.map Prod.fst
def endT (l : List BA) : Prop := l = [] ∨ ∃ r, l = barT :: r
theorem txt_cons {ws : List Wd} {t : BA} {l : List BA} (h : txt ws = t :: l) : ∃ a r, ws = (t, a) :: r ∧ txt r = l := by
  cases ws with
  | nil => cases h
  | cons x r =>
    obtain ⟨u, a⟩ := x
    rw [txt, List.map_cons] at h
    injection h with h1 h2
    exact ⟨a, r, by rw [← h1], h2⟩
theorem txt_nil {ws : List Wd} (h : txt ws = []) : ws = [] := by
  cases ws with
  | nil => rfl
  | cons x r => cases h
theorem isName_bar : isName barT = false := by decide +kernel
theorem names_read {F few many : Nat} : ∀ (l acc : List BA) (ws : List Wd) (rest : List BA), txt ws = l ++ rest → endT rest → namesOk acc l = true → few ≤ acc.length + l.length → acc.length + l.length ≤ many → ∃ ws2, namesS false F few many acc ws = .ok (acc ++ l) ws2 ∧ txt ws2 = rest
  | [], acc, ws, rest, hw, he, _, hf, hm => by
    simp only [List.length_nil, Nat.add_zero, List.nil_append] at hf hm hw
    refine ⟨ws, ?_, hw⟩
    rw [List.append_nil]
    rcases he with rfl | ⟨r, rfl⟩
    · obtain rfl := txt_nil hw
      rw [namesS.eq_def]; dsimp only
      by_cases h : many ≤ acc.length
      · rw [if_pos h]
      · rw [if_neg h, if_pos ⟨rfl, hf⟩]
    · obtain ⟨a, r2, rfl, _⟩ := txt_cons hw
      rw [namesS.eq_def]; dsimp only
      by_cases h : many ≤ acc.length
      · rw [if_pos h]
      · rw [if_neg h, if_pos ⟨rfl, hf⟩]
  | x :: l, acc, ws, rest, hw, he, hn, hf, hm => by
    obtain ⟨a, r, rfl, hr⟩ := txt_cons hw
    simp only [namesOk, Bool.and_eq_true, Bool.not_eq_true'] at hn
    simp only [List.length_cons] at hf hm
    have hb : x ≠ barT := by rintro rfl; rw [isName_bar] at hn; exact absurd hn.1.1 (by decide)
    obtain ⟨ws2, h1, h2⟩ := names_read (F := F) (few := few) (many := many) l (acc ++ [x]) r rest hr he hn.2 (by simp; omega) (by simp; omega)
    refine ⟨ws2, ?_, h2⟩
    rw [namesS.eq_def]; dsimp only
    rw [if_neg (by omega), if_neg (fun h => hb h.1), if_pos ⟨hn.1.1, hn.1.2⟩, h1, List.append_assoc]; rfl
/-! numbers that are written are read -/
theorem dec_all : ∀ (k n : Nat), n < k → (Lib.decDigits n).all digitB = true
  | 0, n, h => by omega
  | k + 1, n, h => by
    rw [Lib.decDigits]
    split
    · rename_i h10
      have : ∀ m : Fin 10, digitB (UInt8.ofNat (48 + m.val)) = true := by decide
      rw [List.all_cons, this ⟨n, h10⟩]; rfl
    · have : ∀ m : Fin 10, digitB (UInt8.ofNat (48 + m.val)) = true := by decide
      rw [List.all_append, dec_all k (n / 10) (by omega), List.all_cons, this ⟨n % 10, by omega⟩]; rfl
theorem dec_digits (n : Nat) : (Lib.decDigits n).all digitB = true := dec_all (n + 1) n (by omega)
theorem dec_num : ∀ (k n : Nat), n < k → numL (Lib.decDigits n) = n
  | 0, n, h => by omega
  | k + 1, n, h => by
    rw [Lib.decDigits]
    have h1 : ∀ m : Fin 10, (UInt8.ofNat (48 + m.val)).toNat - 48 = m.val := by decide
    split
    · rename_i h10
      have := h1 ⟨n, h10⟩
      simp only at this
      unfold numL
      rw [List.foldl_cons, List.foldl_nil, this]; omega
    · have := h1 ⟨n % 10, by omega⟩
      simp only at this
      rw [numL_snoc, dec_num k (n / 10) (by omega), this]; omega
theorem dec_numL (n : Nat) : numL (Lib.decDigits n) = n := dec_num (n + 1) n (by omega)
theorem dec_head : ∀ (k n : Nat), n < k → 1 ≤ n → ∃ c l, Lib.decDigits n = c :: l ∧ c ≠ 48
  | 0, n, h, _ => by omega
  | k + 1, n, h, h0 => by
    rw [Lib.decDigits]
    split
    · rename_i h10
      refine ⟨_, [], rfl, ?_⟩
      have : ∀ m : Fin 10, 1 ≤ m.val → UInt8.ofNat (48 + m.val) ≠ 48 := by decide
      exact this ⟨n, h10⟩ h0
    · obtain ⟨c, l, h1, h2⟩ := dec_head k (n / 10) (by omega) (by omega)
      exact ⟨c, l ++ [UInt8.ofNat (48 + n % 10)], by rw [h1]; rfl, h2⟩
theorem dec_cons {n : Nat} (h : 1 ≤ n) : ∃ c l, Lib.decDigits n = c :: l ∧ c ≠ 48 := dec_head (n + 1) n (by omega) h
theorem dec_len : ∀ (k n : Nat), 1 ≤ k → n < 10 ^ k → (Lib.decDigits n).length ≤ k
  | 0, n, h, _ => by omega
  | k + 1, n, _, h => by
    rw [Lib.decDigits]
    split
    · simp
    · rename_i h10
      have hk : 1 ≤ k := by
        rcases Nat.eq_zero_or_pos k with rfl | h'
        · simp at h; omega
        · exact h'
      have := dec_len k (n / 10) hk (by rw [Nat.pow_succ] at h; omega)
      simp; omega
theorem many_dec {n : Nat} {m : Int} (h1 : 1 ≤ n) (h2 : (n : Int) ≤ m) (h3 : m ≤ 1000000) : manyOf (numT n) m = some n := by
  obtain ⟨c, l, hc, hc0⟩ := dec_cons h1
  have hl := dec_len 7 n (by decide) (by omega)
  have hn := dec_numL n
  unfold manyOf numT
  rw [tx_size, tx_list, dec_digits, hn, if_pos]
  refine ⟨by rw [hc]; simp, hl, ?_, rfl, h2⟩
  rw [hc]; simpa using hc0
theorem tw_digits (l : List UInt8) (h : ∀ c ∈ l.head?, digitB c = false) : ∀ t : List UInt8, t.all digitB = true → (t ++ l).takeWhile digitB = t ∧ (t ++ l).dropWhile digitB = l
  | [], _ => by
    cases l with
    | nil => exact ⟨rfl, rfl⟩
    | cons c l =>
      have := h c (by simp)
      rw [List.nil_append, List.takeWhile_cons, List.dropWhile_cons, if_neg (by rw [this]; decide), if_neg (by rw [this]; decide)]
      exact ⟨rfl, rfl⟩
  | a :: t, ha => by
    rw [List.all_cons, Bool.and_eq_true] at ha
    have ih := tw_digits l h t ha.2
    rw [List.cons_append, List.takeWhile_cons, List.dropWhile_cons, if_pos ha.1, if_pos ha.1, ih.1, ih.2]
    exact ⟨rfl, rfl⟩
/-! spans -/
theorem spellF_head : ∀ (us : List (BA × Nat)) (m : Nat), (∀ u ∈ us, 1 ≤ u.2) → (spellF us m = [] ∨ ∃ c l, spellF us m = c :: l ∧ digitB c = true)
  | [], _, _ => .inl rfl
  | u :: us, m, h => by
    rw [spellF]
    have hu := h u (by simp)
    split
    · rename_i hm
      obtain ⟨c, l, hc, _⟩ := dec_cons (n := m / u.2) (Nat.div_pos hm hu)
      have hd := dec_digits (m / u.2)
      rw [hc, List.all_cons, Bool.and_eq_true] at hd
      exact .inr ⟨c, _, by rw [hc]; rfl, hd.1⟩
    · exact spellF_head us m (fun x hx => h x (List.mem_cons_of_mem _ hx))
theorem spellF_zero : ∀ (us : List (BA × Nat)), (∀ u ∈ us, 1 ≤ u.2) → spellF us 0 = []
  | [], _ => rfl
  | u :: us, h => by
    rw [spellF, if_neg (by have := h u (by simp); omega), spellF_zero us (fun x hx => h x (List.mem_cons_of_mem _ hx))]
/-- a unit's letters, and digits or nothing behind them: the unit is read -/
theorem unit_d (r : List UInt8) : unitOf (dT.data.toList ++ r) = some (dT, 86400000) := by
  simp [unitOf, unitsL, preB, dT, tx, List.isPrefixOf]
theorem unit_h (r : List UInt8) : unitOf (hT.data.toList ++ r) = some (hT, 3600000) := by
  simp [unitOf, unitsL, preB, dT, hT, tx, List.find?, List.isPrefixOf]
theorem unit_ms (r : List UInt8) : unitOf (msT.data.toList ++ r) = some (msT, 1) := by
  simp [unitOf, unitsL, preB, dT, hT, msT, tx, List.find?, List.isPrefixOf]
theorem unit_s (r : List UInt8) : unitOf (sT.data.toList ++ r) = some (sT, 1000) := by
  simp [unitOf, unitsL, preB, dT, hT, msT, mT, sT, tx, List.find?, List.isPrefixOf]
theorem unit_m (r : List UInt8) (h : r = [] ∨ ∃ c l, r = c :: l ∧ digitB c = true) : unitOf (mT.data.toList ++ r) = some (mT, 60000) := by
  rcases h with rfl | ⟨c, l, rfl, hc⟩
  · decide +kernel
  · have : c ≠ 115 := by rintro rfl; exact absurd hc (by decide)
    have h2 : ((115 : UInt8) == c) = false := by simp; exact fun e => this e.symm
    simp [unitOf, unitsL, preB, dT, hT, msT, mT, tx, List.find?, List.isPrefixOf, h2]
theorem span_step {u : BA × Nat} {us : List (BA × Nat)} (hus : ∀ x ∈ us, 1 ≤ x.2) (hu : 1 ≤ u.2) (hnd : ∀ c ∈ u.1.data.toList.head?, digitB c = false) (hne : u.1.data.toList ≠ [])
    (hun : ∀ r : List UInt8, (r = [] ∨ ∃ c l, r = c :: l ∧ digitB c = true) → unitOf (u.1.data.toList ++ r) = some u)
    (ih : ∀ f sum m, us.length ≤ f → 1 ≤ m → m < u.2 → sum + m ≤ 253402300799999 → spanF f (spellF us m) sum u.2 = some (sum + m))
    (f sum last m : Nat) (hf : us.length ≤ f) (hl : u.2 < last) (hm : u.2 ≤ m) (hs : sum + m ≤ 253402300799999) : spanF (f + 1) (spellF (u :: us) m) sum last = some (sum + m) := by
  rw [spellF, if_pos hm, spanF]
  have hr := spellF_head us (m % u.2) hus
  have hq := Nat.div_pos hm hu
  obtain ⟨c, l, hc, hc0⟩ := dec_cons (n := m / u.2) hq
  have htw := tw_digits (u.1.data.toList ++ spellF us (m % u.2)) (by
    intro c hc
    cases hx : u.1.data.toList with
    | nil => exact absurd hx hne
    | cons a b => rw [hx] at hc hnd; simp at hc; subst hc; exact hnd _ (by simp)) _ (dec_digits (m / u.2))
  rw [htw.1, htw.2, hun _ hr, dec_numL]
  have hlen := dec_len 15 (m / u.2) (by decide) (by have := Nat.div_le_self m u.2; omega)
  have hmul : m / u.2 * u.2 + m % u.2 = m := by rw [Nat.mul_comm]; exact Nat.div_add_mod m u.2
  have hmod := Nat.mod_lt m (show 0 < u.2 from hu)
  have hmx : m / u.2 ≤ (253402300799999 - sum) / u.2 := Nat.div_le_div_right (by omega)
  rw [if_neg (by
    rintro (h | h | h)
    · rw [hc] at h; cases h
    · omega
    · rw [hc] at h; simp at h; exact hc0 h)]
  dsimp only
  have hdrop : (u.1.data.toList ++ spellF us (m % u.2)).drop u.1.size = spellF us (m % u.2) := List.drop_left' rfl
  rw [if_neg (by rintro (h | h) <;> omega), hdrop]
  by_cases hz : m % u.2 = 0
  · rw [hz, spellF_zero us hus, if_pos rfl]
    congr 1; omega
  · have h1 := ih f (sum + m / u.2 * u.2) (m % u.2) hf (by omega) hmod (by omega)
    rcases hr with hr | ⟨c2, l2, hr, _⟩
    · exfalso
      rw [hr] at h1
      cases f with
      | zero => simp [spanF] at h1
      | succ f => simp [spanF] at h1
    · rw [if_neg (by rw [hr]; simp), h1]
      congr 1; omega
theorem span_skip {u : BA × Nat} {us : List (BA × Nat)} {m : Nat} (h : ¬ u.2 ≤ m) : spellF (u :: us) m = spellF us m := by rw [spellF, if_neg h]
theorem nod (t : BA) (h : t = dT ∨ t = hT ∨ t = mT ∨ t = sT ∨ t = msT) : (∀ c ∈ t.data.toList.head?, digitB c = false) ∧ t.data.toList ≠ [] := by
  rcases h with rfl | rfl | rfl | rfl | rfl <;> exact ⟨by decide, by decide⟩
theorem span1 (f sum last m : Nat) (hf : 1 ≤ f) (hl : 1 < last) (h1 : 1 ≤ m) (hs : sum + m ≤ 253402300799999) : spanF f (spellF [(msT, 1)] m) sum last = some (sum + m) := by
  obtain ⟨f, rfl⟩ : ∃ g, f = g + 1 := ⟨f - 1, by omega⟩
  exact span_step (u := (msT, 1)) (us := []) (by simp) (by decide) (nod msT (by simp)).1 (nod msT (by simp)).2 (fun r _ => unit_ms r) (fun f sum m _ h1 h2 _ => by simp at h2; omega) f sum last m (by simp) hl h1 hs
theorem span2 (f sum last m : Nat) (hf : 2 ≤ f) (hl : 1000 < last) (h1 : 1 ≤ m) (hs : sum + m ≤ 253402300799999) : spanF f (spellF [(sT, 1000), (msT, 1)] m) sum last = some (sum + m) := by
  obtain ⟨f, rfl⟩ : ∃ g, f = g + 1 := ⟨f - 1, by omega⟩
  by_cases hm : 1000 ≤ m
  · exact span_step (u := (sT, 1000)) (us := [(msT, 1)]) (by simp) (by decide) (nod sT (by simp)).1 (nod sT (by simp)).2 (fun r _ => unit_s r) (fun f sum m hf h1 _ hs => span1 f sum 1000 m hf (by decide) h1 hs) f sum last m (by simp; omega) hl hm hs
  · rw [span_skip hm]; exact span1 _ sum last m (by omega) (by omega) h1 hs
theorem span3 (f sum last m : Nat) (hf : 3 ≤ f) (hl : 60000 < last) (h1 : 1 ≤ m) (hs : sum + m ≤ 253402300799999) : spanF f (spellF [(mT, 60000), (sT, 1000), (msT, 1)] m) sum last = some (sum + m) := by
  obtain ⟨f, rfl⟩ : ∃ g, f = g + 1 := ⟨f - 1, by omega⟩
  by_cases hm : 60000 ≤ m
  · exact span_step (u := (mT, 60000)) (us := [(sT, 1000), (msT, 1)]) (by simp) (by decide) (nod mT (by simp)).1 (nod mT (by simp)).2 unit_m (fun f sum m hf h1 _ hs => span2 f sum 60000 m hf (by decide) h1 hs) f sum last m (by simp; omega) hl hm hs
  · rw [span_skip hm]; exact span2 _ sum last m (by omega) (by omega) h1 hs
theorem span4 (f sum last m : Nat) (hf : 4 ≤ f) (hl : 3600000 < last) (h1 : 1 ≤ m) (hs : sum + m ≤ 253402300799999) : spanF f (spellF [(hT, 3600000), (mT, 60000), (sT, 1000), (msT, 1)] m) sum last = some (sum + m) := by
  obtain ⟨f, rfl⟩ : ∃ g, f = g + 1 := ⟨f - 1, by omega⟩
  by_cases hm : 3600000 ≤ m
  · exact span_step (u := (hT, 3600000)) (us := [(mT, 60000), (sT, 1000), (msT, 1)]) (by simp) (by decide) (nod hT (by simp)).1 (nod hT (by simp)).2 (fun r _ => unit_h r) (fun f sum m hf h1 _ hs => span3 f sum 3600000 m hf (by decide) h1 hs) f sum last m (by simp; omega) hl hm hs
  · rw [span_skip hm]; exact span3 _ sum last m (by omega) (by omega) h1 hs
theorem span5 (f sum last m : Nat) (hf : 5 ≤ f) (hl : 86400000 < last) (h1 : 1 ≤ m) (hs : sum + m ≤ 253402300799999) : spanF f (spellF unitsP m) sum last = some (sum + m) := by
  obtain ⟨f, rfl⟩ : ∃ g, f = g + 1 := ⟨f - 1, by omega⟩
  by_cases hm : 86400000 ≤ m
  · exact span_step (u := (dT, 86400000)) (us := [(hT, 3600000), (mT, 60000), (sT, 1000), (msT, 1)]) (by simp) (by decide) (nod dT (by simp)).1 (nod dT (by simp)).2 (fun r _ => unit_d r) (fun f sum m hf h1 _ hs => span4 f sum 86400000 m hf (by decide) h1 hs) f sum last m (by simp; omega) hl hm hs
  · rw [unitsP, span_skip hm]; exact span4 _ sum last m (by omega) (by omega) h1 hs
/-- a round's fuel is the text's length: more fuel, the same answer -/
theorem spanF_more : ∀ (f : Nat) (l : List UInt8) (sum last n : Nat), spanF f l sum last = some n → spanF (f + 1) l sum last = some n
  | 0, l, sum, last, n, h => by simp [spanF] at h
  | f + 1, l, sum, last, n, h => by
    rw [spanF] at h ⊢
    split at h
    · cases h
    · rename_i h1
      rw [if_neg h1]
      split at h
      · cases h
      · rename_i u hu
        split at h
        · cases h
        · rename_i h2
          rw [if_neg h2]
          split at h
          · rename_i h3; rw [if_pos h3]; exact h
          · rename_i h3; rw [if_neg h3]; exact spanF_more f _ _ _ _ h
/-- .. and less, as long as there is a round for each byte -/
theorem spanF_len : ∀ (f : Nat) (l : List UInt8) (sum last n : Nat), spanF f l sum last = some n → spanF (l.length + 1) l sum last = some n
  | 0, l, sum, last, n, h => by simp [spanF] at h
  | f + 1, l, sum, last, n, h => by
    rw [spanF] at h ⊢
    split at h
    · cases h
    · rename_i h1
      rw [if_neg h1]
      split at h
      · cases h
      · rename_i u hu
        split at h
        · cases h
        · rename_i h2
          rw [if_neg h2]
          split at h
          · rename_i h3; rw [if_pos h3]; exact h
          · rename_i h3
            rw [if_neg h3]
            have ih := spanF_len f _ _ _ _ h
            have hlen : ((l.dropWhile digitB).drop u.1.size).length + 1 ≤ l.length := by
              have h4 := (unitOf_spec hu).2.2.2
              have h5 := (List.dropWhile_sublist digitB (l := l)).length_le
              have h6 : 0 < (l.dropWhile digitB).length := by
                cases hx : l.dropWhile digitB with
                | nil => rw [hx] at h3; simp at h3
                | cons a b => simp
              rw [List.length_drop]; omega
            obtain ⟨j, hj⟩ : ∃ j, l.length = ((l.dropWhile digitB).drop u.1.size).length + 1 + j := ⟨l.length - (((l.dropWhile digitB).drop u.1.size).length + 1), by omega⟩
            rw [hj]
            clear hj hlen
            induction j with
            | zero => exact ih
            | succ j ihj => exact spanF_more _ _ _ _ _ ihj
theorem span_spell {n : Nat} (h1 : 1 ≤ n) (h2 : n ≤ 253402300799999) : spanOf (spellT n) = some n := by
  have h := span5 5 0 253402300800000 n (Nat.le_refl _) (by decide) h1 (by omega)
  have h3 := spanF_len _ _ _ _ _ h
  rw [Nat.zero_add] at h3
  unfold spanOf spellT
  rw [tx_size, tx_list]; exact h3
/-! a stage that is written is read -/
theorem kw_kind : ∀ k : Fin 14, 1 ≤ k.val → kindOf (kwL.getD k.val ByteArray.empty) = k.val := by decide +kernel
theorem kind_ne0 {k : Nat} (h1 : 1 ≤ k) (h2 : k ≤ 13) : kindOf (kwL.getD k ByteArray.empty) = k := kw_kind ⟨k, by omega⟩ h1
theorem goodS_spec {x : Stg} (h : goodS x = true) : ∃ k : Nat, x.kind = k ∧ 1 ≤ k ∧ k ≤ 13 ∧ (bnd k).1 ≤ x.n ∧ x.n ≤ (bnd k).2.1 ∧ (bnd k).2.2.1 ≤ x.names.length ∧ (x.names.length : Int) ≤ (bnd k).2.2.2 ∧ namesOk [] x.names = true := by
  obtain ⟨kd, n, l⟩ := x
  simp only [goodS, Bool.and_eq_true, decide_eq_true_eq] at h
  obtain ⟨k, rfl⟩ : ∃ k : Nat, kd = k := ⟨kd.toNat, by have := h.1.1.1.1.1.1; omega⟩
  exact ⟨k, rfl, by omega, by omega, h.1.1.1.1.2, h.1.1.1.2, h.1.1.2, h.1.2, h.2⟩
theorem behind_spec {ahead : Option (List BA)} {x : Stg} {k : Nat} (hk : x.kind = k) (h : behindS ahead x = true) : ¬ (ahead.isSome = true ∧ k ≠ 9 ∧ k ≠ 10 ∧ k ≠ 13) := by
  rintro ⟨h1, h2, h3, h4⟩
  cases ahead with
  | none => cases h1
  | some l =>
    simp only [behindS, Bool.or_eq_true, Bool.and_eq_true, decide_eq_true_eq] at h
    omega
theorem name_head {y : BA} (h : isName y = true) : ∃ c l, y.data.toList = c :: l ∧ letterB c = true := by
  simp only [isName, Bool.and_eq_true, decide_eq_true_eq] at h
  cases hx : y.data.toList with
  | nil => rw [hx] at h; simp at h
  | cons c l => rw [hx] at h; exact ⟨c, l, rfl, by simpa using h.2⟩
theorem name_nofall {y : BA} (h : isName y = true) : fallT y = false := by
  obtain ⟨c, l, h1, h2⟩ := name_head h
  rw [fallT, h1]
  have : c ≠ 45 := by rintro rfl; exact absurd h2 (by decide)
  simp [this]
theorem fall_name (y : BA) : fallT (tx (45 :: y.data.toList)) = true ∧ nameT (tx (45 :: y.data.toList)) = y := by
  have h1 : fallT (tx (45 :: y.data.toList)) = true := by rw [fallT, tx_list]; rfl
  refine ⟨h1, ?_⟩
  rw [nameT, if_pos h1]
  refine ByteArray.ext (Array.toList_inj.1 ?_)
  have h4 : ∀ (x : BA) (n : Nat), (x.extract 1 n).data.toList = (x.data.toList.drop 1).take (n - 1) := by
    intro x n; rw [ByteArray.data_extract, Array.toList_extract]
  rw [h4, tx_size, tx_list, List.drop_succ_cons, List.drop_zero, List.length_cons, Nat.add_sub_cancel, List.take_length]
theorem one_name {l : List BA} (h1 : 1 ≤ l.length) (h2 : l.length ≤ 1) : ∃ y, l = [y] := by
  match l, h1, h2 with
  | [y], _, _ => exact ⟨y, rfl⟩
theorem stage_read {ahead : Option (List BA)} {F : Nat} {x : Stg} {ws : List Wd} {rest : List BA} (hw : txt ws = toksS x ++ rest) (he : endT rest) (hm : mayS ahead x = true) : ∃ ws2, stageS spanOf false F ahead ws = .ok x ws2 ∧ txt ws2 = rest := by
  simp only [mayS, Bool.and_eq_true] at hm
  obtain ⟨k, hk, k1, k2, b1, b2, b3, b4, hn⟩ := goodS_spec hm.1
  have hg : GoOn ahead k := ⟨by omega, behind_spec hk hm.2⟩
  have hbeh := hm.2
  obtain ⟨kd, n, l⟩ := x
  simp only at hk b1 b2 b3 b4 hn
  subst hk
  rw [toksS, List.cons_append] at hw
  obtain ⟨a, r, rfl, hr⟩ := txt_cons hw
  have hT : kindOf (kwL.getD (Int.toNat k) ByteArray.empty) = k := by rw [Int.toNat_natCast]; exact kind_ne0 k1 k2
  simp only at hT hr hw
  simp only at hw ⊢
  by_cases e1 : k = 1
  · subst e1
    have hn0 : n = 0 := by
      have h1 : (bnd ((1 : Nat) : Int)).1 = 0 := by decide
      have h2 : (bnd ((1 : Nat) : Int)).2.1 = 0 := by decide
      omega
    subst hn0
    have h4 : (l.length : Int) ≤ 1 := by have h2 : (bnd ((1 : Nat) : Int)).2.2.2 = 1 := by decide
                                         omega
    rcases Nat.eq_zero_or_pos l.length with h0 | h0
    · obtain rfl := List.eq_nil_of_length_eq_zero h0
      have ht : tailT ⟨((1 : Nat) : Int), 0, []⟩ = [] := by simp [tailT]
      rw [ht, List.nil_append] at hr
      refine ⟨r, ?_, hr⟩
      refine st_noby hT hg rfl ?_
      rcases he with rfl | ⟨q, rfl⟩
      · rw [txt_nil hr]; decide
      · obtain ⟨a2, r2, rfl, _⟩ := txt_cons hr
        rw [hdT, if_pos rfl]; decide
    · obtain ⟨y, rfl⟩ := one_name h0 (by omega)
      have ht : tailT ⟨((1 : Nat) : Int), 0, [y]⟩ = [byT, y] := by simp [tailT]
      rw [ht] at hr
      obtain ⟨a2, r2, rfl, hr2⟩ := txt_cons hr
      obtain ⟨a3, r3, h3, h4⟩ := st_by (ahead := ahead) (odd := false) (F := F) (t := kwL.getD (Int.toNat ((1 : Nat) : Int)) ByteArray.empty) (a := a) hT hg rfl (show hdT ((byT, a2) :: r2) = byT by rw [hdT, if_neg (by decide)])
      injection h3 with h3 h5
      subst h5
      obtain ⟨ws2, h6, h7⟩ := names_read (F := F) (few := 1) (many := 1) [y] [] r2 rest hr2 he hn (by simp) (by simp)
      exact ⟨ws2, by rw [h4, h6]; rfl, h7⟩
  by_cases e13 : k = 13
  · subst e13
    have hn1 : 0 ≤ n ∧ n ≤ 1 := by
      have h1 : (bnd ((13 : Nat) : Int)).1 = 0 := by decide
      have h2 : (bnd ((13 : Nat) : Int)).2.1 = 1 := by decide
      omega
    have hb3 : (bnd ((13 : Nat) : Int)).2.2.1 = 1 := by decide
    have hb4 : (bnd ((13 : Nat) : Int)).2.2.2 = 1 := by decide
    obtain ⟨y, rfl⟩ := one_name (l := l) (by omega) (by omega)
    have hy : isName y = true := by simp only [namesOk, Bool.and_eq_true] at hn; exact hn.1.1
    have hmay : mayName ahead y = true := by
      cases ahead with
      | none => simp [mayName, hy]
      | some l => simpa [mayName, hy, behindS] using hbeh
    by_cases hn0 : n = 1
    · subst hn0
      have ht : tailT ⟨((13 : Nat) : Int), 1, [y]⟩ = [tx (45 :: y.data.toList)] := by simp [tailT]
      rw [ht] at hr
      obtain ⟨a2, r2, rfl, hr2⟩ := txt_cons hr
      have hne : tx (45 :: y.data.toList) ≠ barT := by
        intro e
        have := congrArg (fun z : BA => z.data.toList.head?) e
        rw [tx_list] at this
        simp [barT, tx] at this
      have hhd : hdT ((tx (45 :: y.data.toList), a2) :: r2) = tx (45 :: y.data.toList) := by rw [hdT, if_neg hne]
      obtain ⟨t3, a3, r3, h3, _, _, h4⟩ := st_sorty (ahead := ahead) (odd := false) (F := F) (t := kwL.getD (Int.toNat ((13 : Nat) : Int)) ByteArray.empty) (a := a) hT hg rfl (by rw [hhd, (fall_name y).2]; exact hmay)
      injection h3 with h3 h5
      subst h5
      rw [hhd, (fall_name y).2, if_pos (fall_name y).1] at h4
      exact ⟨r2, h4, hr2⟩
    · obtain rfl : n = 0 := by omega
      have ht : tailT ⟨((13 : Nat) : Int), 0, [y]⟩ = [y] := by simp [tailT]
      rw [ht] at hr
      obtain ⟨a2, r2, rfl, hr2⟩ := txt_cons hr
      have hne : y ≠ barT := by rintro rfl; rw [isName_bar] at hy; cases hy
      have hhd : hdT ((y, a2) :: r2) = y := by rw [hdT, if_neg hne]
      have hfy := name_nofall hy
      have hny : nameT y = y := by rw [nameT, if_neg (by rw [hfy]; decide)]
      obtain ⟨t3, a3, r3, h3, _, _, h4⟩ := st_sorty (ahead := ahead) (odd := false) (F := F) (t := kwL.getD (Int.toNat ((13 : Nat) : Int)) ByteArray.empty) (a := a) hT hg rfl (by rw [hhd, hny]; exact hmay)
      injection h3 with h3 h5
      subst h5
      rw [hhd, hny, if_neg (by rw [hfy]; decide)] at h4
      exact ⟨r2, h4, hr2⟩
  have hfew : ((bnd (k : Int)).2.2.1.toNat : Int) = (bnd (k : Int)).2.2.1 := by
    have : 0 ≤ (bnd (k : Int)).2.2.1 := by unfold bnd; (repeat' split) <;> decide
    omega
  have hmany : ((bnd (k : Int)).2.2.2.toNat : Int) = (bnd (k : Int)).2.2.2 := by
    have : 0 ≤ (bnd (k : Int)).2.2.2 := by unfold bnd; (repeat' split) <;> decide
    omega
  by_cases hl : 0 < (bnd (k : Int)).1
  · obtain ⟨m, rfl⟩ : ∃ m : Nat, n = m := ⟨n.toNat, by omega⟩
    obtain ⟨u, hu, hcu, hub⟩ : ∃ u, tailT ⟨(k : Int), (m : Int), l⟩ = u :: l ∧ countOf spanOf k u = some m ∧ u ≠ barT := by
      by_cases e3 : k = 3
      · subst e3
        have hb2 : (bnd ((3 : Nat) : Int)).2.1 = 253402300799999 := by decide
        refine ⟨spellT m, by simp [tailT], ?_, ?_⟩
        · rw [countOf, if_pos (show ((3 : Nat) : Int) = 3 from rfl)]; exact span_spell (by omega) (by omega)
        · intro e
          have h1 := span_spell (n := m) (by omega) (by omega)
          rw [e, show spanOf barT = none by decide +kernel] at h1
          cases h1
      · have hb2 : (bnd (k : Int)).2.1 ≤ 1000000 := by
          have : ∀ j : Fin 14, j.val ≠ 3 → (bnd (j.val : Int)).2.1 ≤ 1000000 := by decide
          exact this ⟨k, by omega⟩ e3
        refine ⟨numT m, ?_, ?_, ?_⟩
        · rw [tailT, if_neg (by simp; omega), if_neg (by simp; omega), if_neg (by simp; omega), if_pos (by constructor <;> simp <;> omega)]; simp
        · rw [countOf, if_neg (by omega)]; exact many_dec (by omega) b2 hb2
        · intro e
          have h1 := many_dec (n := m) (m := 1000000) (by omega) (by omega) (by decide)
          rw [e, show manyOf barT 1000000 = none by decide +kernel] at h1
          cases h1
    rw [hu] at hr
    obtain ⟨a2, r2, rfl, hr2⟩ := txt_cons hr
    have hhd : hdT ((u, a2) :: r2) = u := by rw [hdT, if_neg hub]
    obtain ⟨t3, a3, r3, h3, _, _, h4⟩ := st_numy (odd := false) (F := F) (t := kwL.getD (Int.toNat (k : Int)) ByteArray.empty) (a := a) (few := (bnd (k : Int)).2.2.1.toNat) (many := (bnd (k : Int)).2.2.2.toNat) hT hg e1 e13 hl (by rw [hhd]; exact hcu) ⟨hfew.symm, hmany.symm⟩
    injection h3 with h3 h5
    subst h5
    obtain ⟨ws2, h6, h7⟩ := names_read (F := F) (few := (bnd (k : Int)).2.2.1.toNat) (many := (bnd (k : Int)).2.2.2.toNat) l [] r2 rest hr2 he hn (by simp; omega) (by simp; omega)
    exact ⟨ws2, by rw [h4, h6]; rfl, h7⟩
  · have hn0 : n = 0 := by
      have h1 : ∀ j : Fin 14, j.val ≠ 13 → ¬ 0 < (bnd (j.val : Int)).1 → (bnd (j.val : Int)).1 = 0 ∧ (bnd (j.val : Int)).2.1 = 0 := by decide
      have := h1 ⟨k, by omega⟩ e13 hl
      simp only at this
      omega
    subst hn0
    have hk3 : k ≠ 3 := by rintro rfl; exact hl (by decide)
    have ht : tailT ⟨(k : Int), 0, l⟩ = l := by
      rw [tailT, if_neg (by simp; omega), if_neg (by simp; omega), if_neg (by simp), if_neg (by simp)]
    rw [ht] at hr
    have h4 := st_none (odd := false) (F := F) (ahead := ahead) (t := kwL.getD (Int.toNat (k : Int)) ByteArray.empty) (a := a) (r := r) (few := (bnd (k : Int)).2.2.1.toNat) (many := (bnd (k : Int)).2.2.2.toNat) hT hg e1 e13 hl ⟨hfew.symm, hmany.symm⟩
    obtain ⟨ws2, h6, h7⟩ := names_read (F := F) (few := (bnd (k : Int)).2.2.1.toNat) (many := (bnd (k : Int)).2.2.2.toNat) l [] r rest hr he hn (by simp; omega) (by simp; omega)
    exact ⟨ws2, by rw [h4, h6]; rfl, h7⟩
theorem kind_bar : kindOf barT = 0 := by decide +kernel
theorem kw_ne_bar {k : Nat} (h1 : 1 ≤ k) (h2 : k ≤ 13) : kwL.getD k ByteArray.empty ≠ barT := by
  intro e
  have := kind_ne0 h1 h2
  rw [e, kind_bar] at this; omega
theorem parse_read : ∀ (l : List Stg) (x : Stg) (out : List Stg) (ahead : Option (List BA)) (ws : List Wd) (F f : Nat), txt ws = stepsT (x :: l) → rightF ahead (x :: l) = true → out.length + l.length + 1 ≤ 8 → l.length + 1 ≤ f → parseF spanOf false F f out ahead ws = .ok (out ++ x :: l)
  | l, x, out, ahead, ws, F, 0, hw, hr, ho, hf => by omega
  | l, x, out, ahead, ws, F, f + 1, hw, hr, ho, hf => by
    rw [rightF, Bool.and_eq_true] at hr
    rw [stepsT] at hw
    have he : endT (l.flatMap fun y => barT :: toksS y) := by
      cases l with
      | nil => exact .inl rfl
      | cons y l => exact .inr ⟨_, rfl⟩
    obtain ⟨ws2, h1, h2⟩ := stage_read (F := F) hw he hr.1
    have hmay := hr.1
    simp only [mayS, Bool.and_eq_true] at hmay
    obtain ⟨k, hk, k1, k2, _⟩ := goodS_spec hmay.1
    rw [toksS, List.cons_append] at hw
    obtain ⟨a, r, rfl, hr1⟩ := txt_cons hw
    rw [parseF]
    rw [if_neg (show ¬ (out.length = 8 ∧ kwL.getD x.kind.toNat ByteArray.empty ≠ barT) by omega)]
    show (match stageS spanOf false F ahead ((kwL.getD x.kind.toNat ByteArray.empty, a) :: r) with
      | .bad a => PR.stage a
      | .ok x [] => if false = true then PR.stage F else PR.ok (out ++ [x])
      | .ok x ((t, a) :: r) => if t = barT then parseF spanOf false F f (out ++ [x]) (if tableB x.kind = true then some (headS x) else ahead) r else PR.stage a) = _
    rw [h1]
    cases l with
    | nil =>
      rw [txt_nil h2]; rfl
    | cons y l =>
      rw [List.flatMap_cons, List.cons_append] at h2
      obtain ⟨a2, r2, rfl, hr2⟩ := txt_cons h2
      dsimp only
      rw [if_pos rfl]
      have ih := parse_read l y (out ++ [x]) (nextH ahead x) r2 F f hr2 hr.2 (by simp at ho ⊢; omega) (by simp at hf; omega)
      unfold nextH at ih
      rw [ih, List.append_assoc]; rfl
/-! what is written, with any blanks: it is read as it was -/
theorem name_ok {y : BA} (h : isName y = true) : okT y := by
  refine .inr ?_
  simp only [isName, Bool.and_eq_true, decide_eq_true_eq] at h
  refine ⟨by omega, List.all_eq_true.2 fun c hc => ?_⟩
  have h1 := List.all_eq_true.1 h.1.2 c hc
  exact byte_cases (P := fun c => partB c = true → wordB c = true) (by decide +kernel) c h1
theorem names_okT : ∀ (l acc : List BA), namesOk acc l = true → ∀ y ∈ l, okT y
  | [], _, _ => by simp
  | x :: l, acc, h => by
    simp only [namesOk, Bool.and_eq_true] at h
    intro y hy
    rcases List.mem_cons.1 hy with rfl | hy
    · exact name_ok h.1.1
    · exact names_okT l _ h.2 y hy
theorem digit_word {l : List UInt8} (h : l.all digitB = true) : l.all wordB = true := by
  refine List.all_eq_true.2 fun c hc => ?_
  exact byte_cases (P := fun c => digitB c = true → wordB c = true) (by decide +kernel) c (List.all_eq_true.1 h c hc)
theorem spell_word : ∀ (us : List (BA × Nat)) (m : Nat), (∀ u ∈ us, u.1.data.toList.all wordB = true) → (spellF us m).all wordB = true
  | [], _, _ => rfl
  | u :: us, m, h => by
    rw [spellF]
    have ih := fun m => spell_word us m (fun x hx => h x (List.mem_cons_of_mem _ hx))
    split
    · rw [List.all_append, List.all_append, digit_word (dec_digits _), h u (by simp), ih]; rfl
    · exact ih m
theorem kw_ok : ∀ k : Fin 14, 1 ≤ k.val → 0 < (kwL.getD k.val ByteArray.empty).size ∧ (kwL.getD k.val ByteArray.empty).data.toList.all wordB = true := by decide +kernel
theorem toks_ok {x : Stg} (h : goodS x = true) : ∀ t ∈ toksS x, okT t := by
  obtain ⟨k, hk, k1, k2, b1, b2, b3, b4, hn⟩ := goodS_spec h
  have hnm := names_okT _ _ hn
  intro t ht
  rw [toksS] at ht
  rcases List.mem_cons.1 ht with rfl | ht
  · rw [hk, Int.toNat_natCast]
    exact .inr (kw_ok ⟨k, by omega⟩ k1)
  · rw [tailT] at ht
    split at ht
    · rename_i e3
      rcases List.mem_cons.1 ht with rfl | ht
      · have e3' : k = 3 := by omega
        subst e3'
        have hb1 : (bnd ((3 : Nat) : Int)).1 = 1 := by decide
        have hb2 : (bnd ((3 : Nat) : Int)).2.1 = 253402300799999 := by decide
        have h1 := span_spell (n := x.n.toNat) (by omega) (by omega)
        refine .inr ⟨?_, ?_⟩
        · rcases Nat.eq_zero_or_pos (spellT x.n.toNat).size with h0 | h0
          · exfalso
            have h2 : (spellT x.n.toNat).data.toList = [] := List.eq_nil_of_length_eq_zero h0
            unfold spanOf at h1
            rw [h0, h2, show spanF (0 + 1) [] 0 253402300800000 = none by decide +kernel] at h1
            cases h1
          · exact h0
        · unfold spellT
          rw [tx_list]
          exact spell_word _ _ (by decide +kernel)
      · exact hnm t ht
    · split at ht
      · rcases List.mem_cons.1 ht with rfl | ht
        · exact .inr (by decide +kernel)
        · exact hnm t ht
      · split at ht
        · rename_i e13
          rw [List.mem_singleton] at ht
          subst ht
          have e13' : k = 13 := by omega
          subst e13'
          have hb3 : (bnd ((13 : Nat) : Int)).2.2.1 = 1 := by decide
          have hb4 : (bnd ((13 : Nat) : Int)).2.2.2 = 1 := by decide
          obtain ⟨y, hy⟩ := one_name (l := x.names) (by omega) (by omega)
          have h1 := hnm y (by rw [hy]; simp)
          have hne : y ≠ barT := by
            rintro rfl
            rw [hy] at hn
            simp only [namesOk, Bool.and_eq_true] at hn
            rw [isName_bar] at hn; exact absurd hn.1.1 (by decide)
          rcases h1 with h1 | ⟨_, h1⟩
          · exact absurd h1 hne
          · refine .inr ⟨by rw [tx_size]; simp, ?_⟩
            rw [tx_list, hy, List.all_cons]
            simpa using ⟨by decide, by simpa using h1⟩
        · split at ht
          · rename_i e
            rcases List.mem_cons.1 ht with rfl | ht
            · obtain ⟨c, l, hc, _⟩ := dec_cons (n := x.n.toNat) (by omega)
              refine .inr ⟨?_, ?_⟩
              · rw [numT, tx_size, hc]; simp
              · rw [numT, tx_list]; exact digit_word (dec_digits _)
            · exact hnm t ht
          · exact hnm t ht
theorem right_good : ∀ (l : List Stg) (ah : Option (List BA)), rightF ah l = true → ∀ x ∈ l, goodS x = true
  | [], _, _ => by simp
  | x :: l, ah, h => by
    rw [rightF, Bool.and_eq_true, mayS, Bool.and_eq_true] at h
    intro y hy
    rcases List.mem_cons.1 hy with rfl | hy
    · exact h.1.1
    · exact right_good l _ h.2 y hy
theorem steps_ok {l : List Stg} {ah : Option (List BA)} (h : rightF ah l = true) : ∀ t ∈ stepsT l, okT t := by
  have hg := right_good l ah h
  cases l with
  | nil => intro t ht; cases ht
  | cons x l =>
    intro t ht
    rw [stepsT, List.mem_append, List.mem_flatMap] at ht
    rcases ht with ht | ⟨y, hy, ht⟩
    · exact toks_ok (hg x (by simp)) t ht
    · rcases List.mem_cons.1 ht with rfl | ht
      · exact .inl rfl
      · exact toks_ok (hg y (by simp [hy])) t ht
theorem steps_len (x : Stg) (l : List Stg) : l.length + 1 ≤ (stepsT (x :: l)).length := by
  rw [stepsT, List.length_append]
  have h1 : 1 ≤ (toksS x).length := by simp [toksS]
  have h2 : l.length ≤ (l.flatMap fun y => barT :: toksS y).length := by
    clear h1
    induction l with
    | nil => simp
    | cons y l ih => simp only [List.flatMap_cons, List.length_append, List.length_cons]; omega
  omega
/-- any text of these words with blanks between is read as these stages -/
theorem parse_glue (s : BA) (l : List Stg) (r : List (Nat × BA)) (e : Nat) (hr : rightS l = true) (hs : s.data.toList = glue r e) (ht : r.map Prod.snd = stepsT l) (hg : ∀ x ∈ r.tail, 1 ≤ x.1) : parseS spanOf s = .ok l := by
  rw [rightS, Bool.and_eq_true, decide_eq_true_eq] at hr
  have hok : ∀ x ∈ r, okT x.2 := fun x hx => steps_ok hr.2 x.2 (by rw [← ht]; exact List.mem_map_of_mem hx)
  obtain ⟨h1, h2⟩ := words_glue s r e 0 (by rw [List.drop_zero]; exact hs) (Nat.zero_le _) hok hg
  rw [ht] at h1
  have hlen := glue_len r e hok
  rw [← hs] at hlen
  have hsz : s.data.toList.length = s.size := rfl
  unfold parseS
  cases l with
  | nil =>
    rw [if_pos ⟨txt_nil h1, h2⟩]
  | cons x l =>
    rw [if_neg]
    · rw [h2]
      have h3 := steps_len x l
      have h4 := congrArg List.length ht
      rw [List.length_map] at h4
      simp only [Nat.lt_irrefl, decide_false]
      have := parse_read l x [] none (words s 0) s.size (s.size + 1) h1 hr.2 (by simp at hr ⊢; omega) (by omega)
      simpa using this
    · rintro ⟨h3, _⟩
      rw [h3] at h1
      rw [stepsT, toksS] at h1; cases h1
theorem gaps_snd (l : List BA) : (gapsT l).map Prod.snd = l := by
  cases l with
  | nil => rfl
  | cons t r => simp [gapsT, Function.comp_def]
theorem gaps_one (l : List BA) : ∀ x ∈ (gapsT l).tail, 1 ≤ x.1 := by
  cases l with
  | nil => simp [gapsT]
  | cons t r =>
    intro x hx
    simp [gapsT] at hx
    obtain ⟨u, _, rfl⟩ := hx
    exact Nat.le_refl _
theorem parse_print {l : List Stg} (h : rightS l = true) : parseS spanOf (printS l) = .ok l :=
  parse_glue _ l (gapsT (stepsT l)) 0 h (by rw [printS, tx_list]; rfl) (gaps_snd _) (gaps_one _)
end Go.Proofs.YtjcnjpljngabfaaGreatDoor
