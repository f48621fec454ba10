import Derived.Test.YtjcnjpljngabfaaGreatDoorK9
namespace Go.Proofs.YtjcnjpljngabfaaGreatDoor
open Go.RowKit Go.Proofs.YtjcnjpljngabfaaGreatDoorW.PrintWords
set_option linter.unusedVariables false
/-! rows of two texts, as slices and as what they hold -/
theorem rows_split {w : World} {base : Nat} {ok : Nat → Prop} {v : Value} {p s q t : BA} (h : Kd.R (Kd.slice 9 Kd.string) 41 w base ok v [[p, s], [q, t]]) :
    ∃ x y : SV, svK.R 41 w base ok v [x, y] ∧ x.n = 2 ∧ y.n = 2 ∧ Kd.string.R 9 w base ok x.val [p, s] ∧ Kd.string.R 9 w base ok y.val [q, t] := by
  obtain ⟨h0, cs, ho, hl, hr⟩ := h
  have hl : cs.length = 2 := hl
  cases cs with
  | nil => cases hl
  | cons u1 cs =>
    cases cs with
    | nil => cases hl
    | cons u2 cs =>
      cases cs with
      | cons u3 cs => simp at hl
      | nil =>
        obtain ⟨v1, e1, r1⟩ := hr 0 _ rfl
        obtain ⟨v2, e2, r2⟩ := hr 1 _ rfl
        have e1 : u1 = v1 := List.head_eq_of_cons_eq (show [u1] = [v1] from e1)
        have e2 : u2 = v2 := List.head_eq_of_cons_eq (show [u2] = [v2] from e2)
        subst e1 e2
        obtain ⟨A1, c1, rfl⟩ := Kd.R_slice r1
        obtain ⟨A2, c2, rfl⟩ := Kd.R_slice r2
        refine ⟨⟨A1, 2, c1⟩, ⟨A2, 2, c2⟩, ⟨h0, [.slice A1 2 c1, .slice A2 2 c2], ho, rfl, fun j z hj => ?_⟩, rfl, rfl, Kd.R_drop r1, Kd.R_drop r2⟩
        rcases j with _ | _ | j
        · have hz : (⟨A1, 2, c1⟩ : SV) = z := by simpa using hj
          subst hz; rfl
        · have hz : (⟨A2, 2, c2⟩ : SV) = z := by simpa using hj
          subst hz; rfl
        · simp at hj
theorem rows_C {w : World} {b1 b2 : Nat} {ok1 ok2 : Nat → Prop} {A : Option Addr} {p s q t : BA} {x y : SV} (h : svK.C w A 2 [x, y]) (h1 : Kd.string.R 9 w b1 ok1 x.val [p, s]) (h2 : Kd.string.R 9 w b2 ok2 y.val [q, t]) :
    Kd.C (Kd.slice 9 Kd.string) w A 2 [[p, s], [q, t]] := by
  obtain ⟨_, hm, hc⟩ := h
  refine ⟨rfl, hm, fun hp => ?_⟩
  obtain ⟨ad, hA, hr⟩ := hc hp
  refine ⟨ad, hA, fun j r hj => ?_⟩
  rcases j with _ | _ | j
  · have hz : [p, s] = r := by simpa using hj
    subst hz
    obtain ⟨c, h3, h4, h5⟩ := hr 0 x rfl
    obtain ⟨A1, c1, e1, k1, C1⟩ := Kd.R_reads h1
    have h4 : c = [x.val] := h4
    exact ⟨c, h3, ⟨A1, c1, by rw [h4, e1], k1, C1⟩, h5⟩
  · have hz : [q, t] = r := by simpa using hj
    subst hz
    obtain ⟨c, h3, h4, h5⟩ := hr 1 y rfl
    obtain ⟨A1, c1, e1, k1, C1⟩ := Kd.R_reads h2
    have h4 : c = [y.val] := h4
    exact ⟨c, h3, ⟨A1, c1, by rw [h4, e1], k1, C1⟩, h5⟩
  · simp at hj
theorem R_C2 {w : World} {base : Nat} {ok : Nat → Prop} {x : SV} {l : List BA} (h : Kd.string.R 9 w base ok x.val l) : Kd.string.C w x.a l.length l ∧ x.n = l.length ∧ l.length ≤ x.c := by
  obtain ⟨h1, h2, h3⟩ := Kd.R_reads' h
  exact ⟨h3, h1, by rw [← h1]; exact h2⟩
theorem results_c1 {P : Program} {fn : Func} {p : Tmp} {ty : TypeId} (h : fn.results = #[.cell p ty]) (tmps : Array Value) (w : World) (g : Nat) (t : TypeId) (cs : Array Value) (fr : Nat × Nat) (d : TypeDesc)
    (hp : tmps.getD p undef = .pointer (some ⟨g, 0, none⟩)) (hg : w.heap[g]? = some (.cells cs t fr))
    (hu : P.underlying ty = some d) (hd : (match d with | .struct _ | .array _ _ => true | _ => false) = true) (hi : (P.info? ty).map (·.size) = some cs.size) :
    (results fn tmps).run P w = .ok (.agg cs) w := by
  have hp' : tmps[p]?.getD undef = .pointer (some ⟨g, 0, none⟩) := by simpa using hp
  simp [results, h, hp', asAddr, run_loadVar_row w g t ty cs fr d hg hu hd hi]
end Go.Proofs.YtjcnjpljngabfaaGreatDoor
