/- Pure words: a pipe's text with more blanks is read as the same (chapter 24). -/
import Derived.Test.YtjcnjpljngabfaaGreatDoorS8
namespace Go.Proofs.YtjcnjpljngabfaaGreatDoor
open Go.Proofs.YtjcnjpljngabfaaGreatDoorW.PrintWords
def wideC (c : UInt8) : List UInt8 := if c = 124 then [32, 32, 124, 32, 32] else [c]
def wideL (l : List UInt8) : List UInt8 := l.flatMap wideC
theorem wideL_cons (c : UInt8) (l : List UInt8) : wideL (c :: l) = wideC c ++ wideL l := by simp [wideL]
theorem wideL_append (a b : List UInt8) : wideL (a ++ b) = wideL a ++ wideL b := by simp [wideL]
theorem wideL_none {l : List UInt8} (h : ∀ c ∈ l, c ≠ 124) : wideL l = l := by
  induction l with
  | nil => rfl
  | cons c l ih =>
    rw [wideL_cons, ih (fun d hd => h d (List.mem_cons_of_mem _ hd)), wideC, if_neg (h c (by simp))]; rfl
theorem wideL_len (l : List UInt8) : (wideL l).length ≤ 5 * l.length := by
  induction l with
  | nil => simp [wideL]
  | cons c l ih =>
    rw [wideL_cons, List.length_append, List.length_cons]
    have : (wideC c).length ≤ 5 := by unfold wideC; split <;> simp
    omega
def wideR : Nat → List (Nat × BA) → List (Nat × BA)
  | _, [] => []
  | x, (g, t) :: r => if t = barT then (g + 2 + x, t) :: wideR 2 r else (g + x, t) :: wideR 0 r
def wideE : Nat → List (Nat × BA) → Nat
  | x, [] => x
  | _, (_, t) :: r => if t = barT then wideE 2 r else wideE 0 r
theorem word_nobar {t : BA} (h : t.data.toList.all wordB = true) : ∀ c ∈ t.data.toList, c ≠ 124 := by
  intro c hc e
  have h1 := List.all_eq_true.1 h c hc
  rw [e] at h1
  exact absurd h1 (by decide)
theorem wide_glue (e : Nat) : ∀ (r : List (Nat × BA)) (x : Nat), (∀ u ∈ r, okT u.2) → List.replicate x 32 ++ wideL (glue r e) = glue (wideR x r) (wideE x r + e)
  | [], x, _ => by
    rw [glue, wideR, glue, wideE, wideL_none (by intro c hc; rw [(List.mem_replicate.1 hc).2]; decide), List.replicate_append_replicate]
  | (g, t) :: r, x, h => by
    have hr : ∀ u ∈ r, okT u.2 := fun u hu => h u (List.mem_cons_of_mem _ hu)
    rw [glue, wideR, wideE, wideL_append, wideL_append, wideL_none (by intro c hc; rw [(List.mem_replicate.1 hc).2]; decide)]
    by_cases hb : t = barT
    · rw [if_pos hb, if_pos hb, glue, ← wide_glue e r 2 hr]
      subst hb
      have h1 : wideL barT.data.toList = [32, 32, 124, 32, 32] := by decide
      have h2 : barT.data.toList = [124] := by decide
      have a1 : ([32, 32, 124, 32, 32] : List UInt8) ++ wideL (glue r e) = List.replicate 2 32 ++ ([124] ++ (List.replicate 2 32 ++ wideL (glue r e))) := rfl
      rw [h1, h2, a1, ← List.append_assoc, List.replicate_append_replicate, ← List.append_assoc, List.replicate_append_replicate, show x + g + 2 = g + 2 + x by omega]
    · rw [if_neg hb, if_neg hb, glue, ← wide_glue e r 0 hr]
      rcases h (g, t) (by simp) with h1 | h1
      · exact absurd h1 hb
      · rw [wideL_none (word_nobar h1.2), ← List.append_assoc, List.replicate_append_replicate, Nat.add_comm g x]
        simp
theorem wide_snd : ∀ (r : List (Nat × BA)) (x : Nat), (wideR x r).map Prod.snd = r.map Prod.snd
  | [], _ => rfl
  | (g, t) :: r, x => by
    rw [wideR]
    split <;> simp [wide_snd r]
theorem wide_ge : ∀ (r : List (Nat × BA)) (x : Nat), ∀ u ∈ wideR x r, ∃ v ∈ r, v.1 ≤ u.1
  | [], _, u, hu => by cases hu
  | (g, t) :: r, x, u, hu => by
    rw [wideR] at hu
    split at hu
    · rcases List.mem_cons.1 hu with h | h
      · subst h; exact ⟨(g, t), by simp, by simp only; omega⟩
      · obtain ⟨v, hv, h2⟩ := wide_ge r 2 u h; exact ⟨v, List.mem_cons_of_mem _ hv, h2⟩
    · rcases List.mem_cons.1 hu with h | h
      · subst h; exact ⟨(g, t), by simp, by simp only; omega⟩
      · obtain ⟨v, hv, h2⟩ := wide_ge r 0 u h; exact ⟨v, List.mem_cons_of_mem _ hv, h2⟩
theorem wide_tail (r : List (Nat × BA)) (x : Nat) (h : ∀ v ∈ r.tail, 1 ≤ v.1) : ∀ u ∈ (wideR x r).tail, 1 ≤ u.1 := by
  cases r with
  | nil => intro u hu; cases hu
  | cons a r =>
    obtain ⟨g, t⟩ := a
    intro u hu
    have : ∃ y, u ∈ wideR y r := by
      rw [wideR] at hu
      split at hu
      · exact ⟨2, hu⟩
      · exact ⟨0, hu⟩
    obtain ⟨y, hy⟩ := this
    obtain ⟨v, hv, h2⟩ := wide_ge r y u hy
    have := h v hv
    omega
/-- with two blanks more ahead of and behind each bar it is read as the same -/
theorem parse_wide {l : List Stg} (h : rightS l = true) (s : BA) (hs : s.data.toList = wideL (printL l)) : parseS spanOf s = .ok l := by
  have h2 := h
  rw [rightS, Bool.and_eq_true, decide_eq_true_eq] at h2
  have hok : ∀ u ∈ gapsT (stepsT l), okT u.2 := fun u hu => steps_ok h2.2 u.2 (by rw [← gaps_snd (stepsT l)]; exact List.mem_map_of_mem hu)
  refine parse_glue s l (wideR 0 (gapsT (stepsT l))) (wideE 0 (gapsT (stepsT l)) + 0) h ?_ (by rw [wide_snd, gaps_snd]) (wide_tail _ _ (gaps_one _))
  rw [hs, printL, ← wide_glue 0 _ 0 hok]
  simp
theorem glue_end : ∀ (r : List (Nat × BA)) (e m : Nat), glue r e ++ List.replicate m 32 = glue r (e + m)
  | [], e, m => by rw [glue, glue, List.replicate_append_replicate]
  | (g, t) :: r, e, m => by rw [glue, glue, List.append_assoc, List.append_assoc, glue_end r e m]
/-- with a blank ahead and two behind it is read as the same -/
theorem parse_pad {l : List Stg} (h : rightS l = true) (s : BA) (hs : s.data.toList = [32] ++ (printL l ++ [32, 32])) : parseS spanOf s = .ok l := by
  have he : printL l ++ [32, 32] = glue (gapsT (stepsT l)) 2 := by
    rw [printL, show ([32, 32] : List UInt8) = List.replicate 2 32 from rfl, glue_end]
  rw [he] at hs
  cases hg : gapsT (stepsT l) with
  | nil =>
    refine parse_glue s l [] 3 h ?_ (by rw [← gaps_snd (stepsT l), hg]) (by intro x hx; cases hx)
    rw [hs, hg]; rfl
  | cons a r =>
    obtain ⟨g, t⟩ := a
    refine parse_glue s l ((g + 1, t) :: r) 2 h ?_ ?_ ?_
    · rw [hs, hg, glue, glue, show ([32] : List UInt8) = List.replicate 1 32 from rfl, ← List.append_assoc, List.replicate_append_replicate, Nat.add_comm 1 g]
    · rw [← gaps_snd (stepsT l), hg]; rfl
    · have := gaps_one (stepsT l)
      rw [hg] at this
      exact this
end Go.Proofs.YtjcnjpljngabfaaGreatDoor
