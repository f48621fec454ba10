import Derived.Test.YtjcnjpljngabfaaGreatDoorP4
import Derived.Test.YtjcnjpljngabfaaGreatDoorS6
namespace Go.Proofs.YtjcnjpljngabfaaGreatDoor
open Go.RowKit Go.Proofs.YtjcnjpljngabfaaGreatDoorW.PrintWords
set_option linter.unusedVariables false
/-- a slice's header -/
structure SV where
  a : Option Addr
  n : Nat
  c : Nat
def SV.val (x : SV) : Value := .slice x.a x.n x.c
def svK : Kd SV := Kd.scalar SV.val (fun _ => rfl)
/-- a stage's cells as they lie -/
def scK : Kd (Int × Int × SV) := Kd.pair (Kd.int .i64) (Kd.pair (Kd.int .i64) svK)
def cellsOf (p : Stg × SV) : Int × Int × SV := (p.1.kind, p.1.n, p.2)
/-- stages in memory of their own, each one's names in a row of their own -/
structure OutPs (w : World) (base : Nat) (v : Value) (ps : List (Stg × SV)) : Prop where
  row : scK.R 43 w base (fun k => base ≤ k) v (ps.map cellsOf)
  names : ∀ p ∈ ps, Kd.string.R 9 w base (fun k => base ≤ k) p.2.val p.1.names
  apart : ps.Pairwise (fun p q => p.2.val.ownBlock = none ∨ p.2.val.ownBlock ≠ q.2.val.ownBlock)
theorem OutPs.nil (w : World) (base : Nat) : OutPs w base (.slice none 0 0) [] := ⟨Kd.R_nil _ _ _ _ _, by simp, List.Pairwise.nil⟩
theorem OutPs.grown {w w1 : World} {base g : Nat} {v : Value} {ps : List (Stg × SV)} (h : OutPs w base v ps) (hg : w.grownBy w1 (some g)) (hb : g < base) : OutPs w1 base v ps :=
  ⟨Kd.R_grown h.row hg (by intro k hk e; injection e with e; omega), fun p hp => Kd.R_grown (h.names p hp) hg (by intro k hk e; injection e with e; omega), h.apart⟩
theorem OutPs.below {w w1 : World} {base : Nat} {v : Value} {ps : List (Stg × SV)} (h : OutPs w base v ps) (hb : Below w.heap.size w w1) : OutPs w1 base v ps :=
  ⟨Kd.R_below h.row hb, fun p hp => Kd.R_below (h.names p hp) hb, h.apart⟩
theorem OutPs.slice {w : World} {base : Nat} {v : Value} {ps : List (Stg × SV)} (h : OutPs w base v ps) : ∃ A c, v = .slice A ps.length c := by
  obtain ⟨A, c, h⟩ := Kd.R_slice h.row
  exact ⟨A, c, by rw [h, List.length_map]⟩
theorem OutPs.wide {w : World} {b base : Nat} {v : Value} {ps : List (Stg × SV)} (h : OutPs w b v ps) (hb : base ≤ b) : OutPs w base v ps :=
  ⟨R_wide h.row hb, fun p hp => R_wide (h.names p hp) hb, h.apart⟩
/-- one more stage has been appended -/
theorem OutPs.snoc {W w1 : World} {base b : Nat} {v v1 : Value} {ps : List (Stg × SV)} {x : Stg} {sv : SV} (h : OutPs W base v ps) (hn : Kd.string.R 9 W b (fun k => b ≤ k) sv.val x.names) (hb : base ≤ b)
    (hlt : ∀ p ∈ ps, ∀ k, p.2.val.ownBlock = some k → k < b) (hR : scK.R 43 w1 base (fun k => base ≤ k) v1 (ps.map cellsOf ++ [cellsOf (x, sv)])) (hg : W.grownBy w1 v.ownBlock) : OutPs w1 base v1 (ps ++ [(x, sv)]) := by
  have ht : ∀ q, q ∈ 9 :: Kd.string.E → q ≠ 43 := by intro q hq; simp [Kd.string, Kd.scalar] at hq; subst hq; decide
  refine ⟨by rw [List.map_append]; exact hR, fun p hp => ?_, ?_⟩
  · rcases List.mem_append.1 hp with hp | hp
    · exact Kd.R_over (h.names p hp) h.row ht hg
    · rw [List.mem_singleton] at hp; subst hp
      exact Kd.R_over (R_wide hn hb) h.row ht hg
  · rw [List.pairwise_append]
    refine ⟨h.apart, List.pairwise_singleton _ _, fun p hp q hq => ?_⟩
    rw [List.mem_singleton] at hq; subst hq
    cases ho : p.2.val.ownBlock with
    | none => exact .inl rfl
    | some k =>
      refine .inr fun e => ?_
      have h1 := hlt p hp k ho
      have h2 := Kd.R_base hn k e.symm
      omega
/-- the head that a table has, or none -/
def AhAt (w : World) (base : Nat) (v : Value) (ahead : Option (List BA)) : Prop :=
  match ahead with
  | none => v = .slice none 0 0
  | some l => Kd.string.R 9 w base (fun k => base ≤ k) v l ∧ 0 < l.length
theorem AhAt.grown {w w1 : World} {base g : Nat} {v : Value} {ahead : Option (List BA)} (h : AhAt w base v ahead) (hg : w.grownBy w1 (some g)) (hb : g < base) : AhAt w1 base v ahead := by
  cases ahead with
  | none => exact h
  | some l => exact ⟨Kd.R_grown h.1 hg (by intro k hk e; injection e with e; omega), h.2⟩
theorem AhAt.over {W w1 : World} {base : Nat} {v u : Value} {ahead : Option (List BA)} {ps : List (Stg × SV)} (h : AhAt W base v ahead) (ho : OutPs W base u ps) (hg : W.grownBy w1 u.ownBlock) : AhAt w1 base v ahead := by
  cases ahead with
  | none => exact h
  | some l => exact ⟨Kd.R_over h.1 ho.row (by intro q hq; simp [Kd.string, Kd.scalar] at hq; subst hq; decide) hg, h.2⟩
theorem AhAt.ahd {w : World} {base g : Nat} {v : Value} {ahead : Option (List BA)} (h : AhAt w base v ahead) (hb : g < base) : Ahd w g v ahead := by
  cases ahead with
  | none => exact h
  | some l =>
    obtain ⟨b, cap, hv, hbb, _⟩ := Kd.R_form h.1 h.2
    have hr := h.1
    rw [hv] at hr
    exact ⟨_, cap, hv, by simp only; omega, (Kd.R_reads' hr).2.2⟩
theorem hdA_lt {w : World} {g : Nat} {s t : BA} {a F : Nat} {r : List Wd} (h : RAt w g s ((t, a) :: r) F) : a < s.size := by
  obtain ⟨i, hi, _, hw, _⟩ := h
  rcases tok_cons hi hw with ⟨_, _, _, _, h, _⟩ | ⟨_, h0, _, _, _, h, _⟩ <;> omega
theorem RAt.fin_le {w : World} {g : Nat} {s : BA} {F : Nat} {ws : List Wd} (h : RAt w g s ws F) : F ≤ s.size := by
  obtain ⟨i, hi, _, _, hF⟩ := h
  have := (_root_.Go.Proofs.YtjcnjpljngabfaaGreatDoor.fin_le s s.size i (by omega) hi).2
  omega
/-! how many words are left -/
def RdLen {α : Type} (n : Nat) : Rd α → Prop
  | .bad _ => True
  | .ok _ r => r.length ≤ n
theorem names_left {odd : Bool} {F few many : Nat} : ∀ (ws : List Wd) (acc : List BA), RdLen ws.length (namesS odd F few many acc ws)
  | [], acc => by
    rw [namesS.eq_def]; dsimp only
    split
    · exact Nat.le_refl _
    · split
      · exact Nat.le_refl _
      · trivial
  | (t, a) :: ws, acc => by
    rw [namesS.eq_def]; dsimp only
    split
    · exact Nat.le_refl _
    · split
      · exact Nat.le_refl _
      · split
        · have := names_left (odd := odd) (F := F) (few := few) (many := many) ws (acc ++ [t])
          generalize namesS odd F few many (acc ++ [t]) ws = z at this
          cases z with
          | bad => trivial
          | ok x r => exact Nat.le_succ_of_le this
        · trivial
theorem RdLen.map_ {α β : Type} {n m : Nat} {f : α → β} {x : Rd α} (h : RdLen n x) (hm : n ≤ m) : RdLen m (x.map f) := by
  cases x with
  | bad a => trivial
  | ok z r => exact Nat.le_trans h hm
theorem stage_left {span : BA → Option Nat} {odd : Bool} {F : Nat} (ahead : Option (List BA)) (ws : List Wd) : RdLen (ws.length - 1) (stageS span odd F ahead ws) := by
  cases ws with
  | nil => trivial
  | cons y r =>
    obtain ⟨t, a⟩ := y
    rw [stageS.eq_def]; dsimp only
    split
    · trivial
    · split
      · split
        · exact Nat.le_refl _
        · split
          · exact RdLen.map_ (names_left _ _) (by simp)
          · exact Nat.le_refl _
      · split
        · split
          · trivial
          · split
            · exact Nat.le_succ _
            · trivial
        · split
          · split
            · trivial
            · split
              · trivial
              · exact RdLen.map_ (names_left _ _) (by simp)
          · exact RdLen.map_ (names_left _ _) (by simp)
theorem stage_lt {span : BA → Option Nat} {odd : Bool} {F : Nat} {ahead : Option (List BA)} {ws r : List Wd} {x : Stg} (h : stageS span odd F ahead ws = .ok x r) : r.length < ws.length := by
  have h1 := stage_left (span := span) (odd := odd) (F := F) ahead ws
  rw [h] at h1
  have h1 : r.length ≤ ws.length - 1 := h1
  cases ws with
  | nil => cases h
  | cons => simp at h1 ⊢; omega
/-- what follows a stage -/
def stepS (odd : Bool) (F f : Nat) (out : List Stg) (ahead : Option (List BA)) : Rd Stg → PR
  | .bad a => .stage a
  | .ok x [] => if odd then .stage F else .ok (out ++ [x])
  | .ok x ((t, a) :: r) => if t = barT then parseF spanOf odd F f (out ++ [x]) (nextH ahead x) r else .stage a
theorem parse_step {odd : Bool} {F f : Nat} {out : List Stg} {ahead : Option (List BA)} {ws : List Wd} (h : ∀ t a r, ws = (t, a) :: r → ¬ (out.length = 8 ∧ t ≠ barT)) : parseF spanOf odd F (f + 1) out ahead ws = stepS odd F f out ahead (stageS spanOf odd F ahead ws) := by
  rw [parseF.eq_def]; dsimp only
  split
  · rename_i a ha
    split at ha
    · rename_i t a' r
      split at ha
      · rename_i hc; exact absurd hc (h t a' r rfl)
      · cases ha
    · cases ha
  · cases stageS spanOf odd F ahead ws with
    | bad a => rfl
    | ok x r =>
      cases r with
      | nil => rfl
      | cons y r => rfl
theorem words_count (s : BA) : ∀ (ws : List Wd) (i : Nat), i ≤ s.size → words s i = ws → ws.length ≤ s.size - i
  | [], _, _, _ => by simp
  | (t, a) :: ws, i, hi, h => by
    rcases tok_cons hi h with ⟨_, _, h1, _, h2, h3⟩ | ⟨_, h0, _, h1, _, h2, h3⟩
    · have := words_count s ws _ h2 h1
      simp only [List.length_cons]; omega
    · have := words_count s ws _ h2 h1
      simp only [List.length_cons]; omega
theorem stage_bad (g : Nat) (s : BA) (ws : List Wd) (F a : Nat) (hs : s.size ≤ 140737488351232) (va : Value) (ahead : Option (List BA)) (w : World) (h : RAt w g s ws F) (ha : Ahd w g va ahead) (hst : stageS spanOf (decide (F < s.size)) F ahead ws = .bad a) :
    Calls Tryz.prog 48 #[.pointer (some ⟨g, 0, none⟩), va] w fun e w' => (∃ (k n : Int) (A : Option Addr) (l c : Nat), e = .returned (.tuple #[.agg #[.int .i64 k, .int .i64 n, .slice A l c], .int .i64 a])) ∧ w.grownBy w' (some g) := by
  have := stage_calls g s ws F hs va ahead w h ha
  rw [hst] at this
  exact this
theorem stage_good (g : Nat) (s : BA) (ws ws2 : List Wd) (F : Nat) (x : Stg) (hs : s.size ≤ 140737488351232) (va : Value) (ahead : Option (List BA)) (w : World) (h : RAt w g s ws F) (ha : Ahd w g va ahead) (hst : stageS spanOf (decide (F < s.size)) F ahead ws = .ok x ws2) :
    Calls Tryz.prog 48 #[.pointer (some ⟨g, 0, none⟩), va] w fun e w' => (∃ (A : Option Addr) (c : Nat), e = .returned (.tuple #[.agg #[.int .i64 x.kind, .int .i64 x.n, .slice A x.names.length c], .int .i64 (-1)]) ∧ Kd.string.R 9 w' w.heap.size (fun k => w.heap.size ≤ k) (.slice A x.names.length c) x.names ∧ RAt w' g s ws2 F) ∧ w.grownBy w' (some g) := by
  have := stage_calls g s ws F hs va ahead w h ha
  rw [hst] at this
  refine this.mono ?_
  rintro e w' ⟨⟨v, rfl, hR, hA⟩, hG⟩
  obtain ⟨A, c, rfl⟩ := Kd.R_slice hR
  exact ⟨⟨A, c, rfl, hR, hA⟩, hG⟩
/-- what Parse leaves -/
def ParseP (w w' : World) (r : PR) (e : Ending) : Prop :=
  match r with
  | .ok l => ∃ v ps, e = .returned (.tuple #[v, .int .i64 0, .int .i64 0]) ∧ ps.map Prod.fst = l ∧ OutPs w' w.heap.size v ps
  | .many a => e = .returned (.tuple #[.slice none 0 0, .int .i64 85, .int .i64 a])
  | .stage a => e = .returned (.tuple #[.slice none 0 0, .int .i64 240, .int .i64 a])
theorem info_stage : (Tryz.prog.info? 43).map (fun i => (i.zero, i.size, i.bytes)) = some (some (.agg #[.int .i64 0, .int .i64 0, .slice none 0 0]), 3, 40) := by kernel_rfl
end Go.Proofs.YtjcnjpljngabfaaGreatDoor
