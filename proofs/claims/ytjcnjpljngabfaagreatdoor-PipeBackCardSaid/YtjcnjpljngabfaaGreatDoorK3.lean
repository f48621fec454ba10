import Derived.Test.YtjcnjpljngabfaaGreatDoorK2
import Derived.Test.YtjcnjpljngabfaaGreatDoorM1
namespace Go.Proofs.YtjcnjpljngabfaaGreatDoor
open Go.RowKit Go.Proofs.YtjcnjpljngabfaaGreatDoorW.PrintWords
set_option linter.unusedVariables false
/-! how the values of the examples stand to one another -/
def oneB (c : UInt8) : BA := ⟨#[c]⟩
theorem one_letter (c : UInt8) (h : c = 120 ∨ c = 121) : scan digitB (oneB c) 0 = 0 ∧ Lib.hasPrefix [c] [45] = false ∧ Lib.trimPrefix [c] [45] = [c] := by
  rcases h with rfl | rfl <;> decide +kernel
theorem one_digit (c : UInt8) (h : c = 50 ∨ c = 51) : scan digitB (oneB c) 0 = 1 ∧ Lib.hasPrefix [c] [45] = false ∧ Lib.trimPrefix [c] [45] = [c] ∧ Lib.atoiAll [c] = .ok (c.toNat - 48) ∧ (oneB c).extract 0 1 = oneB c := by
  rcases h with rfl | rfl <;> decide +kernel
theorem atoi_nought : Lib.atoiAll [48, 48, 48] = .ok 0 := by decide +kernel
set_option maxRecDepth 100000 in
set_option maxHeartbeats 1000000 in
theorem numL_calls (c : UInt8) (h : c = 120 ∨ c = 121) (w : World) :
    Calls Tryz.prog 287 #[.string (oneB c)] w fun e w' => e = .returned (.tuple #[.int .i64 0, .bool false]) ∧ w = w' := by
  obtain ⟨h1, h2, h3⟩ := one_letter c h
  have hr := fun W => run_calls (oneB c) 0 _ digitB looks_digit (Nat.zero_le _) (by show 1 ≤ _; decide) W
  rw [h1] at hr
  have HR := Lib.hid hr
  have H2 := Lib.hid h2
  have H3 := Lib.hid h3
  clear hr h1 h2 h3 h
  go_enter Tryz.func287, Tryz.ntmps287
  go_wp2_with (first | (go_at_call 128; go_must (refine (Tryz.strings_HasPrefix _ _ _).mono ?_; rintro e w5 ⟨rfl, rfl⟩)) | (go_at_call 292; go_must (refine (Tryz.strings_TrimPrefix _ _ _).mono ?_; rintro e w5 ⟨rfl, rfl⟩; rw [show (⟨(Lib.trimPrefix (oneB c).data.toList (⟨#[45]⟩ : BA).data.toList).toArray⟩ : BA) = oneB c from by rw [show Lib.trimPrefix (oneB c).data.toList (⟨#[45]⟩ : BA).data.toList = [c] from H3.out]; rfl])) | (go_at_call 102; go_must (refine (HR.out _).mono ?_; rintro e w5 ⟨rfl, rfl⟩)))
  (try simp only [Exit.inBlock, Exit.then]); refine bodyPost_ret (results_list (rs := [.tmp _, .tmp _]) rfl (by simp) (.tmp (.tmp .nil))) rfl ?_
  exact ⟨rfl, rfl⟩
theorem atoiE_calls (t : BA) (v : Int) (h : t.size ≤ 1000) (hv : Lib.atoiAll t.data.toList = .ok v) (w : World) :
    Calls Tryz.prog 105 #[.string t] w fun e w' => e = .returned (.tuple #[.int .i64 v, .nilIface]) ∧ Below w.heap.size w w' := by
  refine (Tryz.strconv_Atoi_ok t (by omega) v hv w).mono ?_
  rintro e w' ⟨rfl, rfl | ⟨u, rfl⟩⟩
  · exact ⟨rfl, Below.refl _ _⟩
  · exact ⟨rfl, bytes_below (Below.refl _ _) (Nat.le_refl _) _ _⟩
set_option maxRecDepth 100000 in
set_option maxHeartbeats 1000000 in
theorem numD_calls (c : UInt8) (h : c = 50 ∨ c = 51) (w : World) :
    Calls Tryz.prog 287 #[.string (oneB c)] w fun e w' => e = .returned (.tuple #[.int .i64 (1000 * ((c.toNat : Int) - 48)), .bool true]) ∧ Below w.heap.size w w' := by
  obtain ⟨h1, h2, h3, h4, h5⟩ := one_digit c h
  have hr := fun W => run_calls (oneB c) 0 _ digitB looks_digit (Nat.zero_le _) (by show 1 ≤ _; decide) W
  rw [h1] at hr
  have HR := Lib.hid hr
  have H2 : Hid (Lib.hasPrefix (oneB c).data.toList (⟨#[45]⟩ : BA).data.toList = false) := Lib.hid h2
  have H3 := Lib.hid h3
  have H4 := Lib.hid h4
  have H5 := Lib.hid h5
  have hsz : (oneB c).size = 1 := rfl
  obtain ⟨v, hv⟩ : ∃ v : Int, (c.toNat : Int) - 48 = v := ⟨_, rfl⟩
  have hv2 : v = 2 ∨ v = 3 := by rcases h with rfl | rfl <;> simp at hv <;> omega
  rw [hv]
  have H4' : Hid (Lib.atoiAll (oneB c).data.toList = .ok v) := Lib.hid (by rw [← hv]; exact h4)
  have wr1 : wrap64 (1000 * v) = 1000 * v := wr64 (by omega) (by omega)
  clear hr h1 h2 h3 h4 h5 h H4 hv
  go_enter Tryz.func287, Tryz.ntmps287
  go_wp2_with (first | (go_at_call 128; go_must (refine (Tryz.strings_HasPrefix _ _ _).mono ?_; rintro e w5 ⟨rfl, rfl⟩; rw [H2.out])) | (go_at_call 292; go_must (refine (Tryz.strings_TrimPrefix _ _ _).mono ?_; rintro e w5 ⟨rfl, rfl⟩; rw [show (⟨(Lib.trimPrefix (oneB c).data.toList (⟨#[45]⟩ : BA).data.toList).toArray⟩ : BA) = oneB c from by rw [show Lib.trimPrefix (oneB c).data.toList (⟨#[45]⟩ : BA).data.toList = [c] from H3.out]; rfl])) | (go_at_call 102; go_must (refine (HR.out _).mono ?_; rintro e w5 ⟨rfl, rfl⟩)) | (go_at_call 105; go_must ((first | (rw [H5.out]; refine (atoiE_calls _ _ (by rw [hsz]; decide) H4'.out _).mono ?_; rintro e w6 ⟨rfl, hB6⟩) | (refine (atoiE_calls _ 0 (by decide) atoi_nought _).mono ?_; rintro e w7 ⟨rfl, hB7⟩)))))
  (try simp only [Exit.inBlock, Exit.then]); refine bodyPost_ret (results_list (rs := [.tmp _, .tmp _]) rfl (by simp) (.tmp (.tmp .nil))) rfl ?_
  exact ⟨rfl, bw_trans hB6 hB7⟩
theorem cmp_xy : Lib.compareBytes [120] [121] = -1 := by decide +kernel
set_option maxRecDepth 100000 in
set_option maxHeartbeats 1000000 in
theorem compL_calls (w : World) : Calls Tryz.prog 288 #[.string (oneB 120), .string (oneB 121)] w fun e w' => e = .returned (.int .i64 (-1)) ∧ w = w' := by
  have HX : Hid (∀ W, Calls Tryz.prog 287 #[.string (oneB 120)] W fun e w' => e = .returned (.tuple #[.int .i64 0, .bool false]) ∧ W = w') := Lib.hid (numL_calls 120 (.inl rfl))
  have HY : Hid (∀ W, Calls Tryz.prog 287 #[.string (oneB 121)] W fun e w' => e = .returned (.tuple #[.int .i64 0, .bool false]) ∧ W = w') := Lib.hid (numL_calls 121 (.inr rfl))
  generalize hx : oneB 120 = x at HX
  generalize hy : oneB 121 = y at HY
  have HC : Hid (Lib.compareBytes x.data.toList y.data.toList = -1) := Lib.hid (by rw [← hx, ← hy]; exact cmp_xy)
  clear hx hy
  go_enter Tryz.func288, Tryz.ntmps288
  go_wp2_with (first | (go_at_call 287; go_must (first | (with_reducible refine Calls.mono (HX.out _) ?_; rintro e w5 ⟨rfl, rfl⟩) | (with_reducible refine Calls.mono (HY.out _) ?_; rintro e w5 ⟨rfl, rfl⟩))) | (go_at_call 294; go_must (refine (Tryz.strings_Compare _ _ _).mono ?_; rintro e w5 ⟨rfl, rfl⟩; rw [HC.out])))
  go_ret
  exact ⟨rfl, rfl⟩
set_option maxRecDepth 100000 in
set_option maxHeartbeats 1000000 in
theorem compD_calls (x y : BA) (n m r : Int) (hr : r = if n < m then -1 else if m < n then 1 else 0) (hx : ∀ W, Calls Tryz.prog 287 #[.string x] W fun e w' => e = .returned (.tuple #[.int .i64 n, .bool true]) ∧ Below W.heap.size W w') (hy : ∀ W, Calls Tryz.prog 287 #[.string y] W fun e w' => e = .returned (.tuple #[.int .i64 m, .bool true]) ∧ Below W.heap.size W w') (hne : n ≠ m) (w : World) : Calls Tryz.prog 288 #[.string x, .string y] w fun e w' => e = .returned (.int .i64 r) ∧ Below w.heap.size w w' := by
  have HX := Lib.hid hx
  have HY := Lib.hid hy
  clear hx hy
  by_cases hlt : n < m
  · have HR : Hid (r = -1) := Lib.hid (by rw [hr, if_pos hlt])
    clear hr hne
    go_enter Tryz.func288, Tryz.ntmps288
    go_wp2_with (go_at_call 287; go_must (first | (with_reducible refine Calls.mono (HX.out _) ?_; rintro e w5 ⟨rfl, hB5⟩) | (with_reducible refine Calls.mono (HY.out _) ?_; rintro e w6 ⟨rfl, hB6⟩)))
    go_ret
    rw [HR.out]
    exact ⟨rfl, bw_trans hB5 hB6⟩
  · have hgt : m < n := by omega
    have hge : m ≤ n := by omega
    have HR : Hid (r = 1) := Lib.hid (by rw [hr, if_neg hlt, if_pos hgt])
    clear hr hne hlt
    go_enter Tryz.func288, Tryz.ntmps288
    go_wp2_with (go_at_call 287; go_must (first | (with_reducible refine Calls.mono (HX.out _) ?_; rintro e w5 ⟨rfl, hB5⟩) | (with_reducible refine Calls.mono (HY.out _) ?_; rintro e w6 ⟨rfl, hB6⟩)))
    go_ret
    rw [HR.out]
    exact ⟨rfl, bw_trans hB5 hB6⟩
set_option maxRecDepth 100000 in
set_option maxHeartbeats 1000000 in
theorem less_calls (x y : BA) (n m r : Int) (b : Bool) (hx : ∀ W, Calls Tryz.prog 287 #[.string x] W fun e w' => e = .returned (.tuple #[.int .i64 n, .bool b]) ∧ Below W.heap.size W w') (hy : ∀ W, Calls Tryz.prog 287 #[.string y] W fun e w' => e = .returned (.tuple #[.int .i64 m, .bool b]) ∧ Below W.heap.size W w') (hc : ∀ W, Calls Tryz.prog 288 #[.string x, .string y] W fun e w' => e = .returned (.int .i64 r) ∧ Below W.heap.size W w') (hr : r = -1 ∨ r = 1) (w : World) : Calls Tryz.prog 283 #[.string x, .string y] w fun e w' => e = .returned (.bool (decide (r < 0))) ∧ Below w.heap.size w w' := by
  have HX := Lib.hid hx
  have HY := Lib.hid hy
  have HC := Lib.hid hc
  clear hx hy hc
  have hb : (b != b) = false := by cases b <;> rfl
  have h0 : (r != 0) = true := by rw [bne_iff_ne]; omega
  go_enter Tryz.func283, Tryz.ntmps283
  go_wp2_with (first | (go_at_call 287; go_must (first | (with_reducible refine Calls.mono (HX.out _) ?_; rintro e w5 ⟨rfl, hB5⟩) | (with_reducible refine Calls.mono (HY.out _) ?_; rintro e w6 ⟨rfl, hB6⟩))) | (go_at_call 288; go_must (refine (HC.out _).mono ?_; rintro e w7 ⟨rfl, hB7⟩)))
  go_ret
  exact ⟨rfl, bw_trans (bw_trans hB5 hB6) hB7⟩
end Go.Proofs.YtjcnjpljngabfaaGreatDoor
