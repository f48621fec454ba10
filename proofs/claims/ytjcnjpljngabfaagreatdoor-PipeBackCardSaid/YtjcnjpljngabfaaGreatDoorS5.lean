/- Pure words: what is read is right; where what is wrong stands. -/
import Derived.Test.YtjcnjpljngabfaaGreatDoorS4
namespace Go.Proofs.YtjcnjpljngabfaaGreatDoor
open Go.Proofs.YtjcnjpljngabfaaGreatDoorW.PrintWords
theorem names_ok {odd : Bool} {F few many : Nat} : ∀ (ws : List Wd) (acc l : List BA) (r : List Wd), namesS odd F few many acc ws = .ok l r → few ≤ many → acc.length ≤ many → ∃ l', l = acc ++ l' ∧ namesOk acc l' = true ∧ few ≤ l.length ∧ l.length ≤ many
  | [], acc, l, r, h, hf, hm => by
    rw [namesS.eq_def] at h; dsimp only at h
    split at h
    · injection h with h1 h2; subst h1; exact ⟨[], by simp, rfl, by omega, hm⟩
    · split at h
      · rename_i h3; injection h with h1 h2; subst h1; exact ⟨[], by simp, rfl, h3.2, hm⟩
      · cases h
  | (t, a) :: ws, acc, l, r, h, hf, hm => by
    rw [namesS.eq_def] at h; dsimp only at h
    split at h
    · injection h with h1 h2; subst h1; exact ⟨[], by simp, rfl, by omega, hm⟩
    · rename_i h0
      split at h
      · rename_i h3; injection h with h1 h2; subst h1; exact ⟨[], by simp, rfl, h3.2, hm⟩
      · split at h
        · rename_i h4
          obtain ⟨l', h5, h6, h7⟩ := names_ok ws (acc ++ [t]) l r h hf (by simp; omega)
          refine ⟨t :: l', by rw [h5]; simp, ?_, h7⟩
          rw [namesOk, h4.1, h4.2, h6]; rfl
        · cases h
theorem kindL_le : ∀ (l : List BA) (k : Nat) (s : BA), kindL l k s = 0 ∨ kindL l k s < k + l.length
  | [], k, s => .inl rfl
  | x :: l, k, s => by
    rw [kindL]
    split
    · right; simp
    · rcases kindL_le l (k + 1) s with h | h
      · exact .inl h
      · right; simp; omega
theorem kind_le (t : BA) : kindOf t ≤ 13 := by
  have h := kindL_le (kwL.drop 1) 1 t
  have : (kwL.drop 1).length = 13 := by decide
  unfold kindOf
  omega
theorem fold_ge : ∀ (l : List UInt8) (n : Nat), n ≤ l.foldl (fun n c => 10 * n + (c.toNat - 48)) n
  | [], n => Nat.le_refl _
  | c :: l, n => by
    rw [List.foldl_cons]
    have := fold_ge l (10 * n + (c.toNat - 48))
    omega
theorem num_pos {l : List UInt8} (h0 : l ≠ []) (h1 : l.head? ≠ some 48) (h2 : l.all digitB = true) : 1 ≤ numL l := by
  cases l with
  | nil => exact absurd rfl h0
  | cons c l =>
    rw [List.all_cons, Bool.and_eq_true] at h2
    have h3 := fold_ge l (10 * 0 + (c.toNat - 48))
    have h4 : c.toNat ≠ 48 := fun e => h1 (by rw [List.head?_cons, ← UInt8.toNat_inj.1 (show c.toNat = (48 : UInt8).toNat from e)])
    have h5 := h2.1
    simp [digitB] at h5
    unfold numL
    rw [List.foldl_cons]
    omega
theorem many_ok {s : BA} {m : Int} {n : Nat} (h : manyOf s m = some n) : 1 ≤ n ∧ (n : Int) ≤ m := by
  unfold manyOf at h
  split at h
  · rename_i hc
    injection h with h
    subst h
    refine ⟨num_pos ?_ hc.2.2.1 hc.2.2.2.1, hc.2.2.2.2⟩
    intro e
    have : s.size = 0 := by rw [show s.size = s.data.toList.length from rfl, e]; rfl
    omega
  · cases h
theorem span_ok : ∀ (f : Nat) (l : List UInt8) (sum last n : Nat), spanF f l sum last = some n → sum ≤ 253402300799999 → sum < n ∧ n ≤ 253402300799999
  | 0, l, sum, last, n, h, _ => by simp [spanF] at h
  | f + 1, l, sum, last, n, h, hs => by
    rw [spanF] at h
    split at h
    · cases h
    · rename_i h1
      split at h
      · cases h
      · rename_i u hu
        have hsp := unitOf_spec hu
        split at h
        · cases h
        · rename_i h2
          have hq : 1 ≤ numL (l.takeWhile digitB) := by
            refine num_pos (fun e => h1 (.inl e)) ?_ ?_
            · intro e
              apply h1
              refine .inr (.inr ?_)
              cases l with
              | nil => simp at e
              | cons c l =>
                rw [List.takeWhile_cons] at e
                split at e
                · simpa using e
                · simp at e
            · exact List.all_takeWhile
          have hle : numL (l.takeWhile digitB) ≤ (253402300799999 - sum) / u.2 := by omega
          have hmul := Nat.mul_le_mul_right u.2 hle
          have hdiv := Nat.div_mul_le_self (253402300799999 - sum) u.2
          have hpos := Nat.mul_le_mul hq hsp.2.1
          split at h
          · injection h with h; omega
          · have := span_ok f _ _ _ _ h (by omega); omega
theorem spanOf_ok {s : BA} {n : Nat} (h : spanOf s = some n) : 1 ≤ n ∧ n ≤ 253402300799999 := by
  have := span_ok _ _ _ _ _ h (by omega); omega
theorem behind_of {ahead : Option (List BA)} {x : Stg} {k : Nat} (hg : GoOn ahead k) (hk : x.kind = k) (h13 : k ≠ 13) : behindS ahead x = true := by
  cases ahead with
  | none => rfl
  | some l =>
    have h1 := hg.2
    have h2 : k = 9 ∨ k = 10 := by
      by_cases h9 : k = 9
      · exact .inl h9
      · by_cases h10 : k = 10
        · exact .inr h10
        · exact absurd ⟨rfl, h9, h10, h13⟩ h1
    rcases h2 with rfl | rfl <;> simp [behindS, hk]
theorem good_of {k n : Nat} {l : List BA} (h1 : 1 ≤ k) (h2 : k ≤ 13) (h3 : (bnd (k : Int)).1 ≤ n) (h4 : (n : Int) ≤ (bnd (k : Int)).2.1) (h5 : (bnd (k : Int)).2.2.1 ≤ l.length) (h6 : (l.length : Int) ≤ (bnd (k : Int)).2.2.2) (h7 : namesOk [] l = true) : goodS ⟨k, n, l⟩ = true := by
  simp only [goodS, Bool.and_eq_true, decide_eq_true_eq]
  exact ⟨⟨⟨⟨⟨⟨by omega, by omega⟩, h3⟩, h4⟩, h5⟩, h6⟩, h7⟩
theorem map_ok {α β : Type} {f : α → β} {x : Rd α} {y : β} {r : List Wd} (h : x.map f = .ok y r) : ∃ z, x = .ok z r ∧ y = f z := by
  cases x with
  | bad a => cases h
  | ok z q => injection h with h1 h2; subst h1 h2; exact ⟨z, rfl, rfl⟩
theorem bnd_ends : ∀ k : Fin 14, 1 ≤ k.val → 0 ≤ (bnd (k.val : Int)).2.2.1 ∧ (bnd (k.val : Int)).2.2.1 ≤ (bnd (k.val : Int)).2.2.2 ∧ (k.val ≠ 13 → ¬ 0 < (bnd (k.val : Int)).1 → (bnd (k.val : Int)).1 = 0 ∧ (bnd (k.val : Int)).2.1 = 0) ∧ (0 < (bnd (k.val : Int)).1 → (bnd (k.val : Int)).1 = 1) := by decide
theorem stage_ok {odd : Bool} {F : Nat} {ahead : Option (List BA)} {ws : List Wd} {x : Stg} {r : List Wd} (h : stageS spanOf odd F ahead ws = .ok x r) : mayS ahead x = true ∧ ∃ t a q, ws = (t, a) :: q ∧ t ≠ barT := by
  cases ws with
  | nil => cases h
  | cons y q =>
    obtain ⟨t, a⟩ := y
    have hc : ¬ (kindOf t = 0 ∨ (ahead.isSome = true ∧ kindOf t ≠ 9 ∧ kindOf t ≠ 10 ∧ kindOf t ≠ 13)) := by
      intro hc
      rw [stageS.eq_def] at h; dsimp only at h
      rw [if_pos hc] at h; cases h
    refine ⟨?_, t, a, q, rfl, by rintro rfl; exact hc (.inl kind_bar)⟩
    obtain ⟨k, hT⟩ : ∃ k, kindOf t = k := ⟨_, rfl⟩
    have hk13 := kind_le t
    rw [hT] at hc hk13
    have hg : GoOn ahead k := ⟨fun e => hc (.inl e), fun e => hc (.inr e)⟩
    have hk1 : 1 ≤ k := by have := hg.1; omega
    obtain ⟨e1, e2, e3, e4⟩ := bnd_ends ⟨k, by omega⟩ hk1
    simp only at e1 e2 e3 e4
    rw [st_go hT hg] at h
    rw [mayS, Bool.and_eq_true]
    split at h
    · rename_i hk
      subst hk
      split at h
      · injection h with h1 h2; subst h1
        exact ⟨by decide, behind_of hg rfl (by decide)⟩
      · split at h
        · obtain ⟨l, h1, rfl⟩ := map_ok h
          obtain ⟨l', rfl, h3, h4, h5⟩ := names_ok _ _ _ _ h1 (Nat.le_refl _) (by simp)
          refine ⟨good_of (k := 1) (n := 0) (by decide) (by decide) (by decide) (by decide) ?_ ?_ h3, behind_of hg rfl (by decide)⟩
          · have : (bnd ((1 : Nat) : Int)).2.2.1 = 0 := by decide
            omega
          · have : (bnd ((1 : Nat) : Int)).2.2.2 = 1 := by decide
            omega
        · injection h with h1 h2; subst h1
          exact ⟨by decide, behind_of hg rfl (by decide)⟩
    · split at h
      · rename_i hk
        subst hk
        split at h
        · cases h
        · rename_i t2 a2 r2
          split at h
          · rename_i hmay
            injection h with h1 h2; subst h1
            rw [mayName.eq_def, Bool.and_eq_true] at hmay
            refine ⟨?_, ?_⟩
            · have := good_of (k := 13) (n := if fallT t2 then 1 else 0) (l := [nameT t2]) (by decide) (by decide) (by split <;> decide) (by split <;> decide) (by show (bnd ((13 : Nat) : Int)).2.2.1 ≤ 1; decide) (by show (1 : Int) ≤ (bnd ((13 : Nat) : Int)).2.2.2; decide) (by simp [namesOk, hmay.1, hasT])
              split at this
              · rename_i hf; rw [if_pos hf]; exact this
              · rename_i hf; rw [if_neg hf]; exact this
            · cases ahead with
              | none => rfl
              | some l => have := hmay.2; simp only at this; simp [behindS, this]
          · cases h
      · rename_i hn1 hn13
        split at h
        · rename_i hlow
          split at h
          · cases h
          · rename_i t2 a2 r2
            split at h
            · cases h
            · rename_i n hcnt
              obtain ⟨l, h1, rfl⟩ := map_ok h
              obtain ⟨l', rfl, h3, h4, h5⟩ := names_ok _ _ _ _ h1 (by omega) (by simp)
              have hn : 1 ≤ n ∧ (n : Int) ≤ (bnd (k : Int)).2.1 := by
                rw [countOf] at hcnt
                split at hcnt
                · rename_i hk3
                  have := spanOf_ok hcnt
                  have hk3' : k = 3 := by omega
                  subst hk3'
                  have h6 : (bnd ((3 : Nat) : Int)).2.1 = 253402300799999 := by decide
                  omega
                · exact many_ok hcnt
              have := e4 hlow
              exact ⟨good_of hk1 hk13 (by omega) hn.2 (by omega) (by omega) h3, behind_of hg rfl hn13⟩
        · rename_i hlow
          obtain ⟨l, h1, rfl⟩ := map_ok h
          obtain ⟨l', rfl, h3, h4, h5⟩ := names_ok _ _ _ _ h1 (by omega) (by simp)
          obtain ⟨e5, e6⟩ := e3 hn13 hlow
          exact ⟨good_of (n := 0) hk1 hk13 (by omega) (by omega) (by omega) (by omega) h3, behind_of hg rfl hn13⟩
theorem parse_ok {odd : Bool} {F : Nat} : ∀ (f : Nat) (out : List Stg) (ahead : Option (List BA)) (ws : List Wd) (l : List Stg), parseF spanOf odd F f out ahead ws = .ok l → out.length ≤ 8 → ∃ l', l = out ++ l' ∧ rightF ahead l' = true ∧ l.length ≤ 8
  | 0, out, ahead, ws, l, h, _ => by cases h
  | f + 1, out, ahead, ws, l, h, ho => by
    rw [parseF.eq_def] at h
    dsimp only at h
    split at h
    · cases h
    · rename_i hm
      split at h
      · cases h
      · rename_i x hst
        obtain ⟨h1, t, a, q, rfl, h2⟩ := stage_ok hst
        have ho' : out.length ≠ 8 := by
          intro e
          simp [e, h2] at hm
        split at h
        · cases h
        · injection h with h; subst h
          exact ⟨[x], rfl, by rw [rightF, h1]; rfl, by simp; omega⟩
      · rename_i x t2 a2 r2 hst
        obtain ⟨h1, t, a, q, rfl, h2⟩ := stage_ok hst
        have ho' : out.length ≠ 8 := by
          intro e
          simp [e, h2] at hm
        split at h
        · obtain ⟨l', rfl, h4, h5⟩ := parse_ok f _ _ _ _ h (by simp; omega)
          refine ⟨x :: l', by simp, ?_, h5⟩
          rw [rightF, h1, nextH, h4]; rfl
        · cases h
theorem parse_right {s : BA} {l : List Stg} (h : parseS spanOf s = .ok l) : rightS l = true := by
  unfold parseS at h
  split at h
  · injection h with h; subst h; rfl
  · obtain ⟨l', rfl, h1, h2⟩ := parse_ok _ _ _ _ _ h (by simp)
    rw [rightS, h1]; simpa using h2
/-! places -/
theorem words_at (s : BA) : ∀ (ws : List Wd) (i : Nat), i ≤ s.size → words s i = ws → ∀ x ∈ ws, x.2 ≤ s.size
  | [], _, _, _ => by simp
  | (t, a) :: ws, i, hi, h => by
    rcases tok_cons hi h with ⟨_, _, h1, _, h2, _⟩ | ⟨_, _, _, h1, _, h2, _⟩
    · intro x hx
      rcases List.mem_cons.1 hx with rfl | hx
      · simp only; omega
      · exact words_at s ws _ h2 h1 x hx
    · intro x hx
      rcases List.mem_cons.1 hx with rfl | hx
      · simp only; omega
      · exact words_at s ws _ h2 h1 x hx
def RdAt {α : Type} (B : Nat) : Rd α → Prop
  | .bad a => a ≤ B
  | .ok _ r => ∀ x ∈ r, x.2 ≤ B
theorem RdAt.map_ {α β : Type} {B : Nat} {f : α → β} {x : Rd α} (h : RdAt B x) : RdAt B (x.map f) := by
  cases x with
  | bad a => exact h
  | ok z r => exact h
theorem names_at {odd : Bool} {F few many B : Nat} (hF : F ≤ B) : ∀ (ws : List Wd) (acc : List BA), (∀ x ∈ ws, x.2 ≤ B) → RdAt B (namesS odd F few many acc ws)
  | [], acc, h => by
    rw [namesS.eq_def]; dsimp only
    split
    · simp [RdAt]
    · split
      · simp [RdAt]
      · exact hF
  | (t, a) :: ws, acc, h => by
    rw [namesS.eq_def]; dsimp only
    split
    · exact h
    · split
      · exact h
      · split
        · exact names_at hF ws _ (fun x hx => h x (List.mem_cons_of_mem _ hx))
        · exact h (t, a) (by simp)
theorem stage_at {odd : Bool} {F B : Nat} (hF : F ≤ B) (ahead : Option (List BA)) (ws : List Wd) (h : ∀ x ∈ ws, x.2 ≤ B) : RdAt B (stageS spanOf odd F ahead ws) := by
  cases ws with
  | nil => exact hF
  | cons y r =>
    obtain ⟨t, a⟩ := y
    have h1 : ∀ x ∈ r, x.2 ≤ B := fun x hx => h x (List.mem_cons_of_mem _ hx)
    rw [stageS.eq_def]; dsimp only
    split
    · exact h (t, a) (by simp)
    · split
      · split
        · simp [RdAt]
        · rename_i t2 a2 r2
          split
          · exact RdAt.map_ (names_at hF _ _ (fun x hx => h1 x (List.mem_cons_of_mem _ hx)))
          · exact h1
      · split
        · split
          · exact hF
          · rename_i t2 a2 r2
            split
            · exact fun x hx => h1 x (List.mem_cons_of_mem _ hx)
            · exact h1 (t2, a2) (by simp)
        · split
          · split
            · exact hF
            · rename_i t2 a2 r2
              split
              · exact h1 (t2, a2) (by simp)
              · exact RdAt.map_ (names_at hF _ _ (fun x hx => h1 x (List.mem_cons_of_mem _ hx)))
          · exact RdAt.map_ (names_at hF _ _ h1)
def PRAt (B : Nat) : PR → Prop
  | .ok _ => True
  | .many a => a ≤ B
  | .stage a => a ≤ B
theorem parse_at {odd : Bool} {F B : Nat} (hF : F ≤ B) : ∀ (f : Nat) (out : List Stg) (ahead : Option (List BA)) (ws : List Wd), (∀ x ∈ ws, x.2 ≤ B) → PRAt B (parseF spanOf odd F f out ahead ws)
  | 0, _, _, _, _ => hF
  | f + 1, out, ahead, ws, h => by
    rw [parseF.eq_def]
    dsimp only
    have hst := stage_at (odd := odd) hF ahead ws h
    split
    · rename_i a ha
      split at ha
      · rename_i t a' r
        split at ha
        · injection ha with ha; subst ha; exact h (t, a') (by simp)
        · cases ha
      · cases ha
    · split
      · rename_i a ha; rw [ha] at hst; exact hst
      · rename_i x hx
        split
        · exact hF
        · trivial
      · rename_i x t2 a2 r2 hx
        rw [hx] at hst
        split
        · exact parse_at hF f _ _ _ (fun y hy => hst y (List.mem_cons_of_mem _ hy))
        · exact hst (t2, a2) (by simp)
theorem parseS_at (s : BA) : PRAt s.size (parseS spanOf s) := by
  unfold parseS
  split
  · trivial
  · exact parse_at (fin_le s s.size 0 (by omega) (Nat.zero_le _)).2 _ _ _ _ (words_at s _ 0 (Nat.zero_le _) rfl)
end Go.Proofs.YtjcnjpljngabfaaGreatDoor
