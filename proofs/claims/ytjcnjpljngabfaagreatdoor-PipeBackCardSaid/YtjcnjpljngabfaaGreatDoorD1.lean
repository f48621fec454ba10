import Derived.Test.YtjcnjpljngabfaaGreatDoorP8
import Derived.Deep.RegionWith
namespace Go.Proofs.YtjcnjpljngabfaaGreatDoor
open Go.RowKit Go.Proofs.YtjcnjpljngabfaaGreatDoorW.PrintWords
set_option linter.unusedVariables false
/-! pick, name, words, Head -/
def I64 (c : Int) : Prop := -9223372036854775808 ≤ c ∧ c ≤ 9223372036854775807
theorem pick_low {c : Int} {n : Nat} (h : c < 0) (hn : 0 < n) : (-(c + 1)).tmod n = (pickS c n : Nat) := by
  rw [Int.tmod_eq_emod_of_nonneg (by omega), pickS, if_pos h]
  have := Int.emod_nonneg (-(c + 1)) (show (n : Int) ≠ 0 by omega)
  omega
theorem pick_high {c : Int} {n : Nat} (h : 0 ≤ c) (hn : 0 < n) : c.tmod n = (pickS c n : Nat) := by
  rw [Int.tmod_eq_emod_of_nonneg h, pickS, if_neg (by omega)]
  have := Int.emod_nonneg c (show (n : Int) ≠ 0 by omega)
  omega
set_option maxRecDepth 100000 in
set_option maxHeartbeats 1000000 in
theorem pick_calls (c : Int) (n : Nat) (hc : I64 c) (hn : 0 < n) (hn2 : n ≤ 9223372036854775807) (w : World) :
    Calls Tryz.prog 26 #[.int .i64 c, .int .i64 n] w fun e w' => e = .returned (.int .i64 (pickS c n : Nat)) ∧ w = w' := by
  obtain ⟨hc1, hc2⟩ := hc
  have hlt := pickS_lt c hn
  have e1 : c < 0 → (-(c + 1)).tmod n = (pickS c n : Nat) := fun h => pick_low h hn
  have e2 : 0 ≤ c → c.tmod n = (pickS c n : Nat) := fun h => pick_high h hn
  have E1 := Lib.hid e1
  have E2 := Lib.hid e2
  have hn0 : ¬ (n : Int) = 0 := by omega
  have hpos : (0 : Int) < n := by omega
  clear e1 e2 hn
  go_enter Tryz.func26, Tryz.ntmps26
  by_cases h : c < 0
  · have w1 : wrap64 (c + 1) = c + 1 := wr64 (by omega) (by omega)
    have w2 : wrap64 (-(c + 1)) = -(c + 1) := wr64 (by omega) (by omega)
    have e3 : (-(c + 1)).tmod n = (pickS c n : Nat) := E1.out h
    go_wp2_with fail
    go_ret
    exact ⟨rfl, rfl⟩
  · have h' : 0 ≤ c := by omega
    have e3 : c.tmod n = (pickS c n : Nat) := E2.out h'
    go_wp2_with fail
    go_ret
    exact ⟨rfl, rfl⟩
def nameO : Obj := .cells #[.string ⟨#[97]⟩, .string ⟨#[98]⟩, .string ⟨#[115, 116, 97, 116, 117, 115]⟩, .string ⟨#[120, 46, 121]⟩, .string ⟨#[99, 111, 117, 110, 116]⟩] 9 (0, 0)
set_option maxRecDepth 100000 in
set_option maxHeartbeats 1000000 in
theorem name_calls (c : Int) (hc : I64 c) (w : World) :
    Calls Tryz.prog 38 #[.int .i64 c] w fun e w' => e = .returned (.string (nameS c)) ∧ w' = w.alloc nameO := by
  obtain ⟨k, hk⟩ : ∃ k, pickS c 5 = k := ⟨_, rfl⟩
  have hlt : k < 5 := by rw [← hk]; exact pickS_lt c (by decide)
  have hn : nameS c = nameL.getD k ByteArray.empty := by rw [nameS, hk]
  have HP : Hid (∀ W, Calls Tryz.prog 26 #[.int .i64 c, .int .i64 5] W fun e w' => e = .returned (.int .i64 (k : Nat)) ∧ W = w') := Lib.hid (fun W => by
    have h := pick_calls c 5 hc (by decide) (by decide) W
    rw [hk] at h
    exact h)
  have HN := Lib.hid hn
  clear hn hk
  rw [HN.out]
  go_enter Tryz.func38, Tryz.ntmps38
  go_wp2_with (go_at_call 26; refine Calls.mono (HP.out _) ?_; rintro e w' ⟨rfl, rfl⟩)
  go_ret
  refine ⟨congrArg Ending.returned ?_, rfl⟩
  show (nameL.map Value.string)[k]'(by simpa [nameL] using hlt) = _
  rw [List.getElem_map, List.getD_eq_getElem?_getD, List.getElem?_eq_getElem (by simpa [nameL] using hlt)]; rfl
def wordsO : Obj := .cells (kwL.map Value.string).toArray 9 (0, 0)
set_option maxRecDepth 100000 in
set_option maxHeartbeats 1000000 in
theorem words_calls (w : World) :
    Calls Tryz.prog 55 #[] w fun e w' => e = .returned (.slice (some ⟨w.heap.size, 0, none⟩) 14 14) ∧ w' = w.alloc wordsO := by
  go_enter Tryz.func55, Tryz.ntmps55
  go_wp2_with fail
  go_ret
  exact ⟨rfl, rfl⟩
theorem words_cell (w : World) (k : Nat) (hk : k < 14) : (w.alloc wordsO).cell? ⟨w.heap.size, k, none⟩ = some (.string (kwL.getD k ByteArray.empty)) := by
  rw [blk_cell (blk_new w wordsO) k]
  have hl : k < (kwL.map Value.string).length := by simpa [kwL] using hk
  rw [List.getElem?_toArray, List.getElem?_eq_getElem hl, List.getElem_map, List.getD_eq_getElem?_getD, List.getElem?_eq_getElem (by simpa [kwL] using hk)]; rfl
set_option maxRecDepth 100000 in
set_option maxHeartbeats 2000000 in
theorem Head_calls (x : Stg) (hg : goodS x = true) (ht : tableB x.kind = true) (A : Option Addr) (c : Nat) (w : World) (hC : Kd.string.C w A x.names.length x.names) :
    Calls Tryz.prog 46 #[.agg #[.int .i64 x.kind, .int .i64 x.n, .slice A x.names.length c]] w fun e w' => HeadP w w' x (.slice A x.names.length c) e := by
  obtain ⟨k, hk, k1, k2, b1, b2, b3, b4, _⟩ := goodS_spec hg
  have hk8 : k ≤ 8 ∨ k = 12 := by
    have h := ht
    rw [hk] at h
    simp [tableB] at h
    omega
  obtain ⟨kd, n, l⟩ := x
  simp only at hk hC b3 b4 ⊢
  subst hk
  have HC := Lib.hid hC
  clear hC hg ht b1 b2
  have hone : (k = 1 → l = [] ∨ ∃ y, l = [y]) ∧ (k = 2 → ∃ y, l = [y]) := by
    refine ⟨fun e => ?_, fun e => ?_⟩
    · subst e
      have e4 : (bnd ((1 : Nat) : Int)).2.2.2 = 1 := by decide
      rw [e4] at b4
      cases l with
      | nil => exact .inl rfl
      | cons y l =>
        cases l with
        | nil => exact .inr ⟨y, rfl⟩
        | cons z l => simp at b4; omega
    · subst e
      have e3 : (bnd ((2 : Nat) : Int)).2.2.1 = 1 := by decide
      have e4 : (bnd ((2 : Nat) : Int)).2.2.2 = 1 := by decide
      rw [e3] at b3
      rw [e4] at b4
      cases l with
      | nil => simp at b3
      | cons y l =>
        cases l with
        | nil => exact ⟨y, rfl⟩
        | cons z l => simp at b4; omega
  have HONE := Lib.hid hone
  clear hone b3 b4
  have hcase : k = 1 ∨ k = 2 ∨ k = 3 ∨ k = 12 ∨ k = 4 ∨ k = 5 ∨ k = 6 ∨ k = 7 ∨ k = 8 := by omega
  clear hk8 k1 k2
  rcases hcase with rfl | rfl | rfl | rfl | hcase
  · rcases HONE.out.1 rfl with rfl | ⟨y, rfl⟩
    · clear HONE
      go_enter Tryz.func46, Tryz.ntmps46
      go_wp2_with fail
      go_ret
      exact ⟨(by repeat (first | assumption | (with_reducible apply below_alloc) | (with_reducible apply pw_below_drewN) | (with_reducible apply below_drew) | (with_reducible apply Below.refl) | (with_reducible refine bw_set ?_ (by first | (dsimp only; omega) | omega | (simp; done) | (simp; omega)) _))), _, rfl, fun e => absurd e (show ¬ ((1 : Nat) : Int) = 12 by decide), fun _ => R_one (y := countT) (blk_newn _ _ (by simp)) (by simp) (by simp)⟩
    · obtain ⟨g, o, rfl, hc⟩ := strs_plain HC.out (by simp)
      have k0 := pw_cell_below (below_alloc (Below.refl _ _) (.cells #[.int .i64 ((1 : Nat) : Int), .int .i64 n, .slice (some ⟨g, o, none⟩) [y].length c] 43 (0, 0))) (hc 0 (by simp))
      have k0 : World.cell? (w.alloc (.cells #[.int .i64 1, .int .i64 n, .slice (some ⟨g, o, none⟩) 1 c] 43 (0, 0))) ⟨g, o, none⟩ = some (.string y) := k0
      clear HONE HC hc
      go_enter Tryz.func46, Tryz.ntmps46
      go_wp2_with fail
      go_ret
      exact ⟨(by repeat (first | assumption | (with_reducible apply below_alloc) | (with_reducible apply pw_below_drewN) | (with_reducible apply below_drew) | (with_reducible apply Below.refl) | (with_reducible refine bw_set ?_ (by first | (dsimp only; omega) | omega | (simp; done) | (simp; omega)) _))), _, rfl, fun e => absurd e (show ¬ ((1 : Nat) : Int) = 12 by decide), fun _ => R_two (y := y) (z := countT) (blk_newn _ _ (by simp)) (by simp) (by simp)⟩
  · obtain ⟨y, rfl⟩ := HONE.out.2 rfl
    obtain ⟨g, o, rfl, hc⟩ := strs_plain HC.out (by simp)
    have k0 := pw_cell_below (below_alloc (Below.refl _ _) (.cells #[.int .i64 ((2 : Nat) : Int), .int .i64 n, .slice (some ⟨g, o, none⟩) [y].length c] 43 (0, 0))) (hc 0 (by simp))
    have k0 : World.cell? (w.alloc (.cells #[.int .i64 2, .int .i64 n, .slice (some ⟨g, o, none⟩) 1 c] 43 (0, 0))) ⟨g, o, none⟩ = some (.string y) := k0
    clear HONE HC hc
    go_enter Tryz.func46, Tryz.ntmps46
    go_wp2_with fail
    go_ret
    exact ⟨(by repeat (first | assumption | (with_reducible apply below_alloc) | (with_reducible apply pw_below_drewN) | (with_reducible apply below_drew) | (with_reducible apply Below.refl) | (with_reducible refine bw_set ?_ (by first | (dsimp only; omega) | omega | (simp; done) | (simp; omega)) _))), _, rfl, fun e => absurd e (show ¬ ((2 : Nat) : Int) = 12 by decide), fun _ => R_two (y := y) (z := countT) (blk_newn _ _ (by simp)) (by simp) (by simp)⟩
  · clear HONE
    go_enter Tryz.func46, Tryz.ntmps46
    go_wp2_with fail
    go_ret
    exact ⟨(by repeat (first | assumption | (with_reducible apply below_alloc) | (with_reducible apply pw_below_drewN) | (with_reducible apply below_drew) | (with_reducible apply Below.refl) | (with_reducible refine bw_set ?_ (by first | (dsimp only; omega) | omega | (simp; done) | (simp; omega)) _))), _, rfl, fun e => absurd e (show ¬ ((3 : Nat) : Int) = 12 by decide), fun _ => R_two (y := timeT) (z := countT) (blk_newn _ _ (by simp)) (by simp) (by simp)⟩
  · clear HONE
    go_enter Tryz.func46, Tryz.ntmps46
    go_wp2_with fail
    go_ret
    exact ⟨(by repeat (first | assumption | (with_reducible apply below_alloc) | (with_reducible apply pw_below_drewN) | (with_reducible apply below_drew) | (with_reducible apply Below.refl) | (with_reducible refine bw_set ?_ (by first | (dsimp only; omega) | omega | (simp; done) | (simp; omega)) _))), _, rfl, fun _ => rfl, fun e => absurd rfl e⟩
  · clear HONE HC
    rcases hcase with rfl | rfl | rfl | rfl | rfl
    · (have kc : World.cell? ((w.alloc (.cells #[.int .i64 4, .int .i64 n, .slice A l.length c] 43 (0, 0))).alloc wordsO) ⟨w.heap.size + 1, 4, none⟩ = some (.string (kwL.getD 4 ByteArray.empty)) := (by have h := words_cell (w.alloc (.cells #[.int .i64 4, .int .i64 n, .slice A l.length c] 43 (0, 0))) 4 (by decide); simpa using h))
      (go_enter Tryz.func46, Tryz.ntmps46; go_wp2_with fail; go_region_with (go_at_call 55; refine Calls.mono (words_calls _) ?_; rintro e w' ⟨rfl, rfl⟩); all_goals (go_wp2_with fail; go_ret; exact ⟨(by repeat (first | assumption | (with_reducible apply below_alloc) | (with_reducible apply pw_below_drewN) | (with_reducible apply below_drew) | (with_reducible apply Below.refl) | (with_reducible refine bw_set ?_ (by first | (dsimp only; omega) | omega | (simp; done) | (simp; omega)) _))), _, rfl, fun e => absurd e (show ¬ ((4 : Nat) : Int) = 12 by decide), fun _ => R_one (y := kwL.getD 4 ByteArray.empty) (b := w.heap.size + 1 + 1) (blk_drew (blk_newn _ _ (by simp))) (by omega) (by show w.heap.size ≤ w.heap.size + 1 + 1; omega)⟩))
    · (have kc : World.cell? ((w.alloc (.cells #[.int .i64 5, .int .i64 n, .slice A l.length c] 43 (0, 0))).alloc wordsO) ⟨w.heap.size + 1, 5, none⟩ = some (.string (kwL.getD 5 ByteArray.empty)) := (by have h := words_cell (w.alloc (.cells #[.int .i64 5, .int .i64 n, .slice A l.length c] 43 (0, 0))) 5 (by decide); simpa using h))
      (go_enter Tryz.func46, Tryz.ntmps46; go_wp2_with fail; go_region_with (go_at_call 55; refine Calls.mono (words_calls _) ?_; rintro e w' ⟨rfl, rfl⟩); all_goals (go_wp2_with fail; go_ret; exact ⟨(by repeat (first | assumption | (with_reducible apply below_alloc) | (with_reducible apply pw_below_drewN) | (with_reducible apply below_drew) | (with_reducible apply Below.refl) | (with_reducible refine bw_set ?_ (by first | (dsimp only; omega) | omega | (simp; done) | (simp; omega)) _))), _, rfl, fun e => absurd e (show ¬ ((5 : Nat) : Int) = 12 by decide), fun _ => R_one (y := kwL.getD 5 ByteArray.empty) (b := w.heap.size + 1 + 1) (blk_drew (blk_newn _ _ (by simp))) (by omega) (by show w.heap.size ≤ w.heap.size + 1 + 1; omega)⟩))
    · (have kc : World.cell? ((w.alloc (.cells #[.int .i64 6, .int .i64 n, .slice A l.length c] 43 (0, 0))).alloc wordsO) ⟨w.heap.size + 1, 6, none⟩ = some (.string (kwL.getD 6 ByteArray.empty)) := (by have h := words_cell (w.alloc (.cells #[.int .i64 6, .int .i64 n, .slice A l.length c] 43 (0, 0))) 6 (by decide); simpa using h))
      (go_enter Tryz.func46, Tryz.ntmps46; go_wp2_with fail; go_region_with (go_at_call 55; refine Calls.mono (words_calls _) ?_; rintro e w' ⟨rfl, rfl⟩); all_goals (go_wp2_with fail; go_ret; exact ⟨(by repeat (first | assumption | (with_reducible apply below_alloc) | (with_reducible apply pw_below_drewN) | (with_reducible apply below_drew) | (with_reducible apply Below.refl) | (with_reducible refine bw_set ?_ (by first | (dsimp only; omega) | omega | (simp; done) | (simp; omega)) _))), _, rfl, fun e => absurd e (show ¬ ((6 : Nat) : Int) = 12 by decide), fun _ => R_one (y := kwL.getD 6 ByteArray.empty) (b := w.heap.size + 1 + 1) (blk_drew (blk_newn _ _ (by simp))) (by omega) (by show w.heap.size ≤ w.heap.size + 1 + 1; omega)⟩))
    · (have kc : World.cell? ((w.alloc (.cells #[.int .i64 7, .int .i64 n, .slice A l.length c] 43 (0, 0))).alloc wordsO) ⟨w.heap.size + 1, 7, none⟩ = some (.string (kwL.getD 7 ByteArray.empty)) := (by have h := words_cell (w.alloc (.cells #[.int .i64 7, .int .i64 n, .slice A l.length c] 43 (0, 0))) 7 (by decide); simpa using h))
      (go_enter Tryz.func46, Tryz.ntmps46; go_wp2_with fail; go_region_with (go_at_call 55; refine Calls.mono (words_calls _) ?_; rintro e w' ⟨rfl, rfl⟩); all_goals (go_wp2_with fail; go_ret; exact ⟨(by repeat (first | assumption | (with_reducible apply below_alloc) | (with_reducible apply pw_below_drewN) | (with_reducible apply below_drew) | (with_reducible apply Below.refl) | (with_reducible refine bw_set ?_ (by first | (dsimp only; omega) | omega | (simp; done) | (simp; omega)) _))), _, rfl, fun e => absurd e (show ¬ ((7 : Nat) : Int) = 12 by decide), fun _ => R_one (y := kwL.getD 7 ByteArray.empty) (b := w.heap.size + 1 + 1) (blk_drew (blk_newn _ _ (by simp))) (by omega) (by show w.heap.size ≤ w.heap.size + 1 + 1; omega)⟩))
    · (have kc : World.cell? ((w.alloc (.cells #[.int .i64 8, .int .i64 n, .slice A l.length c] 43 (0, 0))).alloc wordsO) ⟨w.heap.size + 1, 8, none⟩ = some (.string (kwL.getD 8 ByteArray.empty)) := (by have h := words_cell (w.alloc (.cells #[.int .i64 8, .int .i64 n, .slice A l.length c] 43 (0, 0))) 8 (by decide); simpa using h))
      (go_enter Tryz.func46, Tryz.ntmps46; go_wp2_with fail; go_region_with (go_at_call 55; refine Calls.mono (words_calls _) ?_; rintro e w' ⟨rfl, rfl⟩); all_goals (go_wp2_with fail; go_ret; exact ⟨(by repeat (first | assumption | (with_reducible apply below_alloc) | (with_reducible apply pw_below_drewN) | (with_reducible apply below_drew) | (with_reducible apply Below.refl) | (with_reducible refine bw_set ?_ (by first | (dsimp only; omega) | omega | (simp; done) | (simp; omega)) _))), _, rfl, fun e => absurd e (show ¬ ((8 : Nat) : Int) = 12 by decide), fun _ => R_one (y := kwL.getD 8 ByteArray.empty) (b := w.heap.size + 1 + 1) (blk_drew (blk_newn _ _ (by simp))) (by omega) (by show w.heap.size ≤ w.heap.size + 1 + 1; omega)⟩))
end Go.Proofs.YtjcnjpljngabfaaGreatDoor
