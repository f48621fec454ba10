import Derived.Test.YtjcnjpljngabfaaGreatDoorP3
namespace Go.Proofs.YtjcnjpljngabfaaGreatDoor
open Go.RowKit Go.Proofs.YtjcnjpljngabfaaGreatDoorW.PrintWords
set_option linter.unusedVariables false
theorem R_wide {α : Type} {d : Kd α} {e : Nat} {w : World} {b base : Nat} {v : Value} {xs : List α} (h : d.R e w b (fun k => b ≤ k) v xs) (hb : base ≤ b) : d.R e w base (fun k => base ≤ k) v xs :=
  Kd.R_mono (Kd.R_lower h hb) (fun k hk => Nat.le_trans hb hk)
theorem clone_calls (A : Option Addr) (c : Nat) (xs : List BA) (w : World) (h : Kd.string.C w A xs.length xs) (hl : xs.length * 16 ≤ 140737488355328) :
    Calls Tryz.prog 82 #[.slice A xs.length c] w fun e w' => ∃ v', e = .returned v' ∧ Kd.string.R 9 w' w.heap.size (fun k => w.heap.size ≤ k) v' xs ∧ Below w.heap.size w w' := by
  have fin : ∀ {v' : Value} {w' : World}, w'.ownsRow w.heap.size 9 1 v' xs.length (xs.map Value.string) → Kd.string.R 9 w' w.heap.size (fun k => w.heap.size ≤ k) v' xs := fun ho => Kd.R_of_own (enc := Value.string) ho (fun k hk => own_base ho k hk)
  by_cases hp : 0 < xs.length
  · obtain ⟨b, off, rfl, hc⟩ := strs_plain h hp
    refine (Tryz.slices_Clone_string b off xs.length c xs w (Nat.le_refl _) hl hc).mono ?_
    rintro e w' ⟨v', rfl, ho, _, hb⟩
    rw [List.take_of_length_le (Nat.le_refl _)] at ho
    exact ⟨v', rfl, fin ho, hb⟩
  · obtain rfl : xs = [] := List.eq_nil_of_length_eq_zero (by omega)
    cases A with
    | none =>
      refine (Tryz.slices_Clone_string_nil 0 c w).mono ?_
      rintro e w' ⟨rfl, rfl⟩
      exact ⟨_, rfl, Kd.R_nil _ _ _ _ _, Below.refl _ _⟩
    | some a =>
      refine (Tryz.slices_Clone_string_zero a c w).mono ?_
      rintro e w' ⟨v', rfl, ho, _, hb⟩
      exact ⟨v', rfl, fin ho, hb⟩
/-- what head leaves: of a stage of fields its names themselves, else a new list -/
def HeadP (w w' : World) (x : Stg) (nv : Value) (e : Ending) : Prop :=
  Below w.heap.size w w' ∧ ∃ v, e = .returned v ∧ (x.kind = 12 → v = nv) ∧ (x.kind ≠ 12 → Kd.string.R 9 w' w.heap.size (fun k => w.heap.size ≤ k) v (headS x))
theorem R_two {w : World} {b base : Nat} {ok : Nat → Prop} {y z : BA} (h : w.heap[b]? = some (.cells #[.string y, .string z] 9 (0, 0))) (hb : base ≤ b) (ho : ok b) : Kd.string.R 9 w base ok (.slice (some ⟨b, 0, none⟩) 2 2) [y, z] :=
  Kd.R_of_own (xs := [y, z]) ⟨rfl, .inr ⟨b, 2, _, rfl, hb, h, Nat.le_refl _, by decide, rfl, rfl⟩⟩ (fun k hk => (show b = k by simpa [Value.ownBlock] using hk) ▸ ho)
set_option maxRecDepth 100000 in
set_option maxHeartbeats 1000000 in
theorem head_calls (x : Stg) (k : Nat) (hk : x.kind = k) (k2 : k ≤ 13) (A : Option Addr) (c : Nat) (w : World) (hC : Kd.string.C w A x.names.length x.names) (hl : x.names.length ≤ 64) :
    Calls Tryz.prog 50 #[.agg #[.int .i64 x.kind, .int .i64 x.n, .slice A x.names.length c]] w fun e w' => HeadP w w' x (.slice A x.names.length c) e := by
  obtain ⟨kd, n, l⟩ := x
  simp only at hk hC hl ⊢
  subst hk
  have HC := Lib.hid hC
  have HL := Lib.hid hl
  clear hC hl
  go_enter Tryz.func50, Tryz.ntmps50
  have hb0 := blk_new w (.cells #[.int .i64 k, .int .i64 n, .slice A l.length c] 43)
  have xa := blk_cell hb0 0; have xb := blk_cell hb0 1; have xc := blk_cell hb0 2; have xx := blk_frozen hb0 0; have xy := blk_frozen hb0 1; have xz := blk_frozen hb0 2; have xl := blk_lt hb0
  have z1 : ((k : Int) == 1) = decide (k = 1) := by rw [Bool.eq_iff_iff]; simp; omega
  have z2 : ((k : Int) == 2) = decide (k = 2) := by rw [Bool.eq_iff_iff]; simp; omega
  have z3 : ((k : Int) == 3) = decide (k = 3) := by rw [Bool.eq_iff_iff]; simp; omega
  have z4 : ((k : Int) == 12) = decide (k = 12) := by rw [Bool.eq_iff_iff]; simp; omega
  by_cases h12 : k = 1 ∨ k = 2
  · have HS : Hid (headS ⟨k, n, l⟩ = l ++ [countT]) := by rw [headS, if_pos (by simp; omega)]; exact Lib.hid rfl
    have H12 : Hid ((k : Int) ≠ 12) := Lib.hid (by omega)
    rcases h12 with rfl | rfl
    all_goals
      go_wp2_with (first | (go_at_call 82; go_must (refine (clone_calls A c l _ (Kd.C_alloc HC.out _) (by have := HL.out; omega)).mono ?_; rintro e w3 ⟨v3, rfl, hV3, hB3⟩; clear xa xb xc xx xy xz xl)) | (at_builtin; refine Kd.R_append Kd.string (w0 := w3) (W := w3) (w.heap.size + 1) rfl _ _ 41 9 (.string ⟨#[]⟩) 16 rfl Tryz.underlying41 info_str rfl (by decide) (by omega) v3 l countT [.string countT] (fun j => w.heap.size + 1 ≤ j) (fun _ => False) rfl rfl rfl (fun _ hk => hk.elim) (by intro k hk; have := hB3.size; simp at this; omega) (by simpa using hV3) (Below.refl _ _) (by have := hB3.size; simpa using this) (by have := HL.out; omega) ?_; rintro v6 w6 hV6 hB6 hG6 hat6))
      go_ret
      exact ⟨below_weaken (bw_trans (below_alloc (Below.refl _ _) _) hB3) (Nat.le_succ _) hB6, v6, rfl, fun e => absurd e H12.out, fun _ => by rw [HS.out]; exact R_wide hV6 (Nat.le_succ _)⟩
  have k1 : k ≠ 1 := fun e => h12 (.inl e)
  have k2' : k ≠ 2 := fun e => h12 (.inr e)
  by_cases h3 : k = 3
  · subst h3
    go_wp2_with fail
    go_ret
    exact ⟨(by repeat (first | assumption | (with_reducible apply below_alloc) | (with_reducible apply pw_below_drewN) | (with_reducible apply below_drew) | (with_reducible apply Below.refl) | (with_reducible refine bw_set ?_ (by first | (dsimp only; omega) | omega | (simp; done) | (simp; omega)) _))), _, rfl, fun e => absurd e (show ¬ ((3 : Nat) : Int) = 12 by decide), fun _ => R_two (y := timeT) (z := countT) (blk_newn _ _ (by simp)) (by simp) (by simp)⟩
  by_cases h4 : k = 12
  · subst h4
    go_wp2_with fail
    go_ret
    exact ⟨(by repeat (first | assumption | (with_reducible apply below_alloc) | (with_reducible apply pw_below_drewN) | (with_reducible apply below_drew) | (with_reducible apply Below.refl) | (with_reducible refine bw_set ?_ (by first | (dsimp only; omega) | omega | (simp; done) | (simp; omega)) _))), _, rfl, fun _ => rfl, fun e => absurd rfl e⟩
  have HS : Hid (headS ⟨k, n, l⟩ = [kwL.getD k ByteArray.empty]) := by
    rw [headS, if_neg (by simp; omega), if_neg (by simp; omega), if_neg (by simp; omega)]; exact Lib.hid (by simp)
  have H12 : Hid ((k : Int) ≠ 12) := Lib.hid (by omega)
  go_wp2_with (go_at_call 58; go_must (refine (word_calls k (by omega) _).mono ?_; rintro e w3 ⟨rfl, hB3⟩))
  go_ret
  refine ⟨?_, _, rfl, fun e => absurd e H12.out, fun _ => by rw [HS.out]; exact R_one (blk_newn _ _ rfl) (by have := hB3.size; simp at this; omega) (by have := hB3.size; simp at this; omega)⟩
  exact below_alloc (bw_trans (below_alloc (Below.refl _ _) _) hB3) _
end Go.Proofs.YtjcnjpljngabfaaGreatDoor
