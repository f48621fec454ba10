import Derived.Test.YtjcnjpljngabfaaGreatDoorK7
import Derived.Test.YtjcnjpljngabfaaGreatDoorP8
namespace Go.Proofs.YtjcnjpljngabfaaGreatDoor
open Go.RowKit Go.Proofs.YtjcnjpljngabfaaGreatDoorW.PrintWords
set_option linter.unusedVariables false
/-! clones of flat rows; Table at the example -/
def hitK : Kd (Int × Int × BA) := Kd.pair (Kd.int .i64) (Kd.pair (Kd.int .i64) Kd.string)
theorem info_hit : (Tryz.prog.info? 58).map (fun i => (i.zero, i.size, i.bytes)) = some (some (.agg #[.int .i64 0, .int .i64 0, .string ⟨#[]⟩]), 3, 32) := by kernel_rfl
set_option maxRecDepth 100000 in
set_option maxHeartbeats 1000000 in
theorem cloneH_calls (A : Option Addr) (c : Nat) (xs : List (Int × Int × BA)) (w : World) (h : hitK.C w A xs.length xs) (hp : 0 < xs.length) (hl : xs.length ≤ 1000000) : Calls Tryz.prog 66 #[.slice A xs.length c] w fun e w' => ∃ v', e = .returned v' ∧ hitK.R 58 w' w.heap.size (fun k => w.heap.size ≤ k) v' xs ∧ Below w.heap.size w w' := by
  obtain ⟨ad, rfl, _⟩ := h.2.2 hp
  have hni := fun W => Lib.run_eql_slice_nil (P := Tryz.prog) W 63 58 (some ad) xs.length c 0 0 Tryz.underlying63
  have H := Lib.hid h
  have HL := Lib.hid hl
  clear h hl hp
  go_enter Tryz.func66, Tryz.ntmps66
  have h0 := Lib.hid (blk_new w (.cells #[] 58 (0, 0)))
  have hR0 : hitK.R 58 (w.alloc (.cells #[] 58 (0, 0))) w.heap.size (fun k => w.heap.size ≤ k) (.slice (some ⟨w.heap.size, 0, none⟩) 0 0) [] := ⟨fun k hk => (by injection hk with hk; subst hk; exact Nat.le_refl _), [], ⟨by simp, .inr ⟨w.heap.size, 0, #[], rfl, Nat.le_refl _, h0.out, Nat.le_refl _, by decide, by simp, by simp⟩⟩, Reps.none _ _⟩
  have HR0 := Lib.hid hR0
  clear hR0
  go_wp2_with (at_builtin; go_must (refine Kd.R_append_rows hitK (Rr := hitK.K w) (w0 := w) (W := w.alloc (.cells #[] 58 (0, 0))) w.heap.size rfl _ _ 63 58 (.agg #[.int .i64 0, .int .i64 0, .string ⟨#[]⟩]) 32 rfl Tryz.underlying63 info_hit rfl (by decide) (by omega) (.slice (some ⟨w.heap.size, 0, none⟩) 0 0) [] xs (some ad) xs.length c (fun k => w.heap.size ≤ k) (fun _ => False) rfl rfl HR0.out (ReadsRow.imp_ H.out (below_alloc (Below.refl _ _) _) (fun _ _ h => h)) (fun _ _ h => h) (fun _ hk => hk.elim) (by intro k hk; simp at hk; omega) (below_alloc (Below.refl _ _) _) (by simp) (by have := HL.out; simp; omega) ?_; rintro v6 w6 hV6 hB6 hG6 hat6))
  go_ret
  exact ⟨v6, rfl, hV6, hB6⟩
set_option maxRecDepth 100000 in
set_option maxHeartbeats 1000000 in
theorem cloneR_calls (A : Option Addr) (c : Nat) (xs : List SV) (w : World) (h : svK.C w A xs.length xs) (hp : 0 < xs.length) (hl : xs.length ≤ 1000000) : Calls Tryz.prog 276 #[.slice A xs.length c] w fun e w' => ∃ v', e = .returned v' ∧ svK.R 41 w' w.heap.size (fun k => w.heap.size ≤ k) v' xs ∧ Below w.heap.size w w' := by
  obtain ⟨ad, rfl, _⟩ := h.2.2 hp
  have hni := fun W => Lib.run_eql_slice_nil (P := Tryz.prog) W 30 41 (some ad) xs.length c 0 0 Tryz.underlying30
  have H := Lib.hid h
  have HL := Lib.hid hl
  clear h hl hp
  go_enter Tryz.func276, Tryz.ntmps276
  have h0 := Lib.hid (blk_new w (.cells #[] 41 (0, 0)))
  have hR0 : svK.R 41 (w.alloc (.cells #[] 41 (0, 0))) w.heap.size (fun k => w.heap.size ≤ k) (.slice (some ⟨w.heap.size, 0, none⟩) 0 0) [] := ⟨fun k hk => (by injection hk with hk; subst hk; exact Nat.le_refl _), [], ⟨by simp, .inr ⟨w.heap.size, 0, #[], rfl, Nat.le_refl _, h0.out, Nat.le_refl _, by decide, by simp, by simp⟩⟩, Reps.none _ _⟩
  have HR0 := Lib.hid hR0
  clear hR0
  go_wp2_with (at_builtin; go_must (refine Kd.R_append_rows svK (Rr := svK.K w) (w0 := w) (W := w.alloc (.cells #[] 41 (0, 0))) w.heap.size rfl _ _ 30 41 (.slice none 0 0) 24 rfl Tryz.underlying30 info_row rfl (by decide) (by omega) (.slice (some ⟨w.heap.size, 0, none⟩) 0 0) [] xs (some ad) xs.length c (fun k => w.heap.size ≤ k) (fun _ => False) rfl rfl HR0.out (ReadsRow.imp_ H.out (below_alloc (Below.refl _ _) _) (fun _ _ h => h)) (fun _ _ h => h) (fun _ hk => hk.elim) (by intro k hk; simp at hk; omega) (below_alloc (Below.refl _ _) _) (by simp) (by have := HL.out; simp; omega) ?_; rintro v6 w6 hV6 hB6 hG6 hat6))
  go_ret
  exact ⟨v6, rfl, hV6, hB6⟩
set_option maxRecDepth 100000 in
set_option maxHeartbeats 1000000 in
theorem cloneS_calls (A : Option Addr) (c : Nat) (xs : List (Int × Int × SV)) (w : World) (h : scK.C w A xs.length xs) (hp : 0 < xs.length) (hl : xs.length ≤ 1000000) : Calls Tryz.prog 88 #[.slice A xs.length c] w fun e w' => ∃ v', e = .returned v' ∧ scK.R 43 w' w.heap.size (fun k => w.heap.size ≤ k) v' xs ∧ Below w.heap.size w w' := by
  obtain ⟨ad, rfl, _⟩ := h.2.2 hp
  have hni := fun W => Lib.run_eql_slice_nil (P := Tryz.prog) W 23 43 (some ad) xs.length c 0 0 Tryz.underlying23
  have H := Lib.hid h
  have HL := Lib.hid hl
  clear h hl hp
  go_enter Tryz.func88, Tryz.ntmps88
  have h0 := Lib.hid (blk_new w (.cells #[] 43 (0, 0)))
  have hR0 : scK.R 43 (w.alloc (.cells #[] 43 (0, 0))) w.heap.size (fun k => w.heap.size ≤ k) (.slice (some ⟨w.heap.size, 0, none⟩) 0 0) [] := ⟨fun k hk => (by injection hk with hk; subst hk; exact Nat.le_refl _), [], ⟨by simp, .inr ⟨w.heap.size, 0, #[], rfl, Nat.le_refl _, h0.out, Nat.le_refl _, by decide, by simp, by simp⟩⟩, Reps.none _ _⟩
  have HR0 := Lib.hid hR0
  clear hR0
  go_wp2_with (at_builtin; go_must (refine Kd.R_append_rows scK (Rr := scK.K w) (w0 := w) (W := w.alloc (.cells #[] 43 (0, 0))) w.heap.size rfl _ _ 23 43 (.agg #[.int .i64 0, .int .i64 0, .slice none 0 0]) 40 rfl Tryz.underlying23 info_stage rfl (by decide) (by omega) (.slice (some ⟨w.heap.size, 0, none⟩) 0 0) [] xs (some ad) xs.length c (fun k => w.heap.size ≤ k) (fun _ => False) rfl rfl HR0.out (ReadsRow.imp_ H.out (below_alloc (Below.refl _ _) _) (fun _ _ h => h)) (fun _ _ h => h) (fun _ hk => hk.elim) (by intro k hk; simp at hk; omega) (below_alloc (Below.refl _ _) _) (by simp) (by have := HL.out; simp; omega) ?_; rintro v6 w6 hV6 hB6 hG6 hat6))
  go_ret
  exact ⟨v6, rfl, hV6, hB6⟩
end Go.Proofs.YtjcnjpljngabfaaGreatDoor
