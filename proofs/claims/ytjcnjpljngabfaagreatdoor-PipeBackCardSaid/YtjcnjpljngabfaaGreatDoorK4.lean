import Derived.Test.YtjcnjpljngabfaaGreatDoorK3
import Derived.StillTailTactics
namespace Go.Proofs.YtjcnjpljngabfaaGreatDoor
open Go.RowKit Go.Proofs.YtjcnjpljngabfaaGreatDoorW.PrintWords
set_option linter.unusedVariables false
set_option maxRecDepth 100000 in
set_option maxHeartbeats 1000000 in
theorem byv_lt (x y : BA) (h : ∀ W, Calls Tryz.prog 283 #[.string x, .string y] W fun e w' => e = .returned (.bool true) ∧ Below W.heap.size W w') (w : World) :
    Calls Tryz.prog 279 #[.string x, .string y] w fun e w' => e = .returned (.int .i64 (-1)) ∧ Below w.heap.size w w' := by
  have H := Lib.hid h
  clear h
  go_enter Tryz.func279, Tryz.ntmps279
  go_wp2_with (go_at_call 283; go_must (with_reducible refine Calls.mono (H.out _) ?_; rintro e w5 ⟨rfl, hB5⟩))
  go_ret
  exact ⟨rfl, hB5⟩
set_option maxRecDepth 100000 in
set_option maxHeartbeats 1000000 in
theorem byv_gt (x y : BA) (h : ∀ W, Calls Tryz.prog 283 #[.string x, .string y] W fun e w' => e = .returned (.bool false) ∧ Below W.heap.size W w') (h2 : ∀ W, Calls Tryz.prog 283 #[.string y, .string x] W fun e w' => e = .returned (.bool true) ∧ Below W.heap.size W w') (w : World) :
    Calls Tryz.prog 279 #[.string x, .string y] w fun e w' => e = .returned (.int .i64 1) ∧ Below w.heap.size w w' := by
  have H := Lib.hid h
  have H2 := Lib.hid h2
  clear h h2
  go_enter Tryz.func279, Tryz.ntmps279
  go_wp2_with (go_at_call 283; go_must (first | (with_reducible refine Calls.mono (H.out _) ?_; rintro e w5 ⟨rfl, hB5⟩) | (with_reducible refine Calls.mono (H2.out _) ?_; rintro e w6 ⟨rfl, hB6⟩)))
  go_ret
  exact ⟨rfl, bw_trans hB5 hB6⟩
theorem byv_letters (w : World) : Calls Tryz.prog 279 #[.string (oneB 120), .string (oneB 121)] w fun e w' => e = .returned (.int .i64 (-1)) ∧ Below w.heap.size w w' := by
  refine byv_lt _ _ (fun W => ?_) w
  have s : ∀ {f : FuncId} {a : Array Value} {W : World} {R : Ending → Prop}, Calls Tryz.prog f a W (fun e w' => R e ∧ W = w') → Calls Tryz.prog f a W (fun e w' => R e ∧ Below W.heap.size W w') := fun h => h.mono (by rintro e w' ⟨h1, rfl⟩; exact ⟨h1, Below.refl _ _⟩)
  exact less_calls (oneB 120) (oneB 121) 0 0 (-1) false (fun W => s (numL_calls 120 (.inl rfl) W)) (fun W => s (numL_calls 121 (.inr rfl) W)) (fun W => s (compL_calls W)) (.inl rfl) W
theorem byv_digits (w : World) : Calls Tryz.prog 279 #[.string (oneB 51), .string (oneB 50)] w fun e w' => e = .returned (.int .i64 1) ∧ Below w.heap.size w w' := by
  have h3 := fun W => numD_calls 51 (.inr rfl) W
  have h2 := fun W => numD_calls 50 (.inl rfl) W
  refine byv_gt _ _ (fun W => ?_) (fun W => ?_) w
  · exact less_calls (oneB 51) (oneB 50) _ _ 1 true h3 h2 (fun W => compD_calls (oneB 51) (oneB 50) _ _ 1 (by decide) h3 h2 (by decide) W) (.inr rfl) W
  · exact less_calls (oneB 50) (oneB 51) _ _ (-1) true h2 h3 (fun W => compD_calls (oneB 50) (oneB 51) _ _ (-1) (by decide) h2 h3 (by decide) W) (.inl rfl) W
/-! sorting two texts -/
set_option maxRecDepth 100000 in
set_option maxHeartbeats 1000000 in
theorem ident_calls (x : BA) (w : World) : Calls Tryz.prog 304 #[.string x] w fun e w' => e = .returned (.string x) ∧ w = w' := by
  go_enter Tryz.func304, Tryz.ntmps304
  go_wp2_with fail
  go_ret
  exact ⟨rfl, rfl⟩
set_option maxRecDepth 100000 in
set_option maxHeartbeats 1000000 in
theorem ordS_calls (bf bo : Nat) (x y : BA) (r : Int) (hb : ∀ W, Calls Tryz.prog 279 #[.string x, .string y] W fun e w' => e = .returned (.int .i64 r) ∧ Below W.heap.size W w') (w : World) (h1 : w.heap[bf]? = some (.cells #[.bool false] 4 (0, 0))) (h2 : w.heap[bo]? = some (.cells #[.func (.func 304) #[] #[]] 258 (0, 0))) :
    Calls Tryz.prog 309 #[.string x, .string y, .pointer (some ⟨bf, 0, none⟩), .pointer (some ⟨bo, 0, none⟩)] w fun e w' => e = .returned (.int .i64 r) ∧ Below w.heap.size w w' := by
  have HB := Lib.hid hb
  have c1 := blk_cell h1 0
  have c2 := blk_cell h2 0
  clear hb
  go_enter Tryz.func309, Tryz.ntmps309
  go_wp2_with fail
  go_region_with (first | ((with_reducible refine Calls.mono (ident_calls _ _) ?_); rintro e w' ⟨rfl, rfl⟩) | (go_at_call 279; (with_reducible refine Calls.mono (HB.out _) ?_); rintro e w5 ⟨rfl, hB5⟩))
  all_goals
    go_wp2_with fail
    go_ret
    exact ⟨rfl, bw_trans (below_drew (Below.refl _ _)) hB5⟩
set_option maxRecDepth 100000 in
set_option maxHeartbeats 4000000 in
theorem insS_calls (b c bf bo : Nat) (p q : BA) (base : Nat) (ok : Nat → Prop) (hb : ∀ W, Calls Tryz.prog 279 #[.string q, .string p] W fun e w' => e = .returned (.int .i64 (-1)) ∧ Below W.heap.size W w') (w : World) (h1 : w.heap[bf]? = some (.cells #[.bool false] 4 (0, 0))) (h2 : w.heap[bo]? = some (.cells #[.func (.func 304) #[] #[]] 258 (0, 0))) (hR : Kd.string.R 9 w base ok (.slice (some ⟨b, 0, none⟩) 2 c) [p, q]) :
    Calls Tryz.prog 312 #[.slice (some ⟨b, 0, none⟩) 2 c, .int .i64 0, .int .i64 2, .func (.func 309) #[] #[.pointer (some ⟨bf, 0, none⟩), .pointer (some ⟨bo, 0, none⟩)]] w fun e w' =>
      e = .returned (.tuple #[]) ∧ Kd.string.R 9 w' base ok (.slice (some ⟨b, 0, none⟩) 2 c) [q, p] ∧ w.grownBy w' (some b) := by
  have HB := Lib.hid hb
  have HR := Lib.hid hR
  have H1 := Lib.hid h1
  have H2 := Lib.hid h2
  obtain ⟨c0, f0⟩ := Kd.R_cell ByteArray.empty hR 0 (by decide) (by simp)
  obtain ⟨c1, f1⟩ := Kd.R_cell ByteArray.empty hR 1 (by decide) (by simp)
  have c0 : w.cell? ⟨b, 0, none⟩ = some (.string p) := c0
  have c1 : w.cell? ⟨b, 1, none⟩ = some (.string q) := c1
  have f0 : w.frozen? ⟨b, 0, none⟩ = false := f0
  have f1 : w.frozen? ⟨b, 1, none⟩ = false := f1
  clear hb hR h1 h2
  go_enter Tryz.func312, Tryz.ntmps312
  go_wp2_with fail
  refine wp_loop_rounds 2 ?_
  rw [rounds_succ]
  go_wp2_with fail
  refine wp_loop_rounds 2 ?_
  rw [rounds_succ]
  go_wp2_with fail
  have hw0 : IntKind.i64.wrap 0 = 0 := by decide
  go_still_tail 14, (by kernel_rfl)
  change wpList _ _ _ _ _ w.drew
  go_wp2_with ((with_reducible refine Calls.mono (ordS_calls bf bo q p (-1) HB.out _ (blk_drew H1.out) (blk_drew H2.out)) ?_); rintro e w5 ⟨rfl, hB5⟩)
  have hR5 := Kd.R_below (Kd.R_drew HR.out) hB5
  obtain ⟨n0, g0⟩ := Kd.R_cell ByteArray.empty hR5 0 (by decide) (by simp)
  obtain ⟨n1, g1⟩ := Kd.R_cell ByteArray.empty hR5 1 (by decide) (by simp)
  have n0 : w5.cell? ⟨b, 0, none⟩ = some (.string p) := n0
  have n1 : w5.cell? ⟨b, 1, none⟩ = some (.string q) := n1
  have g0 : w5.frozen? ⟨b, 0, none⟩ = false := g0
  have g1 : w5.frozen? ⟨b, 1, none⟩ = false := g1
  have HR5 := Lib.hid hR5
  clear hR5 c0 c1 f0 f1
  go_region
  go_wp2_with fail
  rw [rounds_succ]
  go_wp2_with fail
  go_region
  go_wp2_with fail
  rw [rounds_succ]
  go_wp2_with fail
  first | go_end0 | ((try simp only [Exit.inBlock, Exit.then]); refine bodyPost_ret (results_none rfl _ _ _) rfl ?_)
  have r1 := Kd.R_putn HR5.out 1 p
  have r2 := Kd.R_putn r1 0 q
  have hG : w.grownBy w5 (some b) := gb_below (gb_drew (gb_refl _ _)) hB5
  exact ⟨rfl, Kd.R_drew (Kd.R_drew r2), (by repeat (first | assumption | (with_reducible apply gb_alloc) | (with_reducible apply gb_drewN) | (with_reducible apply gb_drew) | (with_reducible refine gb_set ?_ (.inl rfl) _) | (with_reducible refine gb_set ?_ (.inr (by first | (dsimp only; omega) | omega | (simp; done) | (simp; omega))) _) | (with_reducible apply gb_refl)))⟩
set_option maxRecDepth 100000 in
set_option maxHeartbeats 4000000 in
theorem stabS_calls (b c bf bo : Nat) (p q : BA) (base : Nat) (ok : Nat → Prop) (hb : ∀ W, Calls Tryz.prog 279 #[.string q, .string p] W fun e w' => e = .returned (.int .i64 (-1)) ∧ Below W.heap.size W w') (w : World) (h1 : w.heap[bf]? = some (.cells #[.bool false] 4 (0, 0))) (h2 : w.heap[bo]? = some (.cells #[.func (.func 304) #[] #[]] 258 (0, 0))) (hR : Kd.string.R 9 w base ok (.slice (some ⟨b, 0, none⟩) 2 c) [p, q]) :
    Calls Tryz.prog 305 #[.slice (some ⟨b, 0, none⟩) 2 c, .func (.func 309) #[] #[.pointer (some ⟨bf, 0, none⟩), .pointer (some ⟨bo, 0, none⟩)]] w fun e w' =>
      e = .returned (.tuple #[]) ∧ Kd.string.R 9 w' base ok (.slice (some ⟨b, 0, none⟩) 2 c) [q, p] ∧ w.grownBy w' (some b) := by
  have HI := Lib.hid (insS_calls b c bf bo p q base ok hb w h1 h2 hR)
  clear hb h1 h2 hR
  have hst : Calls Tryz.prog 310 #[.slice (some ⟨b, 0, none⟩) 2 c, .int .i64 2, .func (.func 309) #[] #[.pointer (some ⟨bf, 0, none⟩), .pointer (some ⟨bo, 0, none⟩)]] w fun e w' =>
      e = .returned (.tuple #[]) ∧ Kd.string.R 9 w' base ok (.slice (some ⟨b, 0, none⟩) 2 c) [q, p] ∧ w.grownBy w' (some b) := by
    go_enter Tryz.func310, Tryz.ntmps310
    go_wp2_with fail
    refine wp_loop_rounds 1 ?_
    rw [rounds_succ]
    go_wp2_with (go_at_call 312; go_must (refine HI.out.mono ?_; rintro e w1 ⟨rfl, hR1, hG1⟩))
    refine wp_loop_rounds 1 ?_
    rw [rounds_succ]
    go_wp2_with fail
    first | go_end0 | ((try simp only [Exit.inBlock, Exit.then]); refine bodyPost_ret (results_none rfl _ _ _) rfl ?_)
    exact ⟨rfl, hR1, hG1⟩
  have HS := Lib.hid hst
  clear hst
  go_enter Tryz.func305, Tryz.ntmps305
  go_wp2_with (go_at_call 310; go_must (refine HS.out.mono ?_; rintro e w1 ⟨rfl, hR1, hG1⟩))
  first | go_end0 | ((try simp only [Exit.inBlock, Exit.then]); refine bodyPost_ret (results_none rfl _ _ _) rfl ?_)
  exact ⟨rfl, hR1, hG1⟩
end Go.Proofs.YtjcnjpljngabfaaGreatDoor
