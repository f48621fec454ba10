import Derived.Test.YtjcnjpljngabfaaGreatDoorK12
namespace Go.Proofs.YtjcnjpljngabfaaGreatDoor
open Go.RowKit Go.Proofs.YtjcnjpljngabfaaGreatDoorW.PrintWords
set_option linter.unusedVariables false
/-! copied, New at the example -/
theorem set_same {cs : Array Value} {i : Nat} {u v : Value} (h : cs[i]? = some v) : (cs.setIfInBounds i u)[i]? = some u := by
  have hi : i < cs.size := (Array.getElem?_eq_some_iff.1 h).1
  simp [hi]
theorem set_other {cs : Array Value} {i j : Nat} {u v : Value} (h : cs[j]? = some v) (hne : i ≠ j) : (cs.setIfInBounds i u)[j]? = some v := by
  rw [Array.getElem?_setIfInBounds_ne hne]; exact h
def copied_post (w : World) (e : Ending) (w' : World) : Prop :=
  ∃ g c x y, e = .returned (.slice (some ⟨g, 0, none⟩) 2 c) ∧ StsAt w' g x y ∧ Below w.heap.size w w'
set_option maxRecDepth 100000 in
set_option maxHeartbeats 4000000 in
theorem copied_calls (A : Option Addr) (c : Nat) (xa ya : Option Addr) (xc yc : Nat) (w : World) (hC : scK.C w A 2 [(1, 0, ⟨xa, 1, xc⟩), (13, 1, ⟨ya, 1, yc⟩)]) (h1 : Kd.string.C w xa 1 [⟨#[98]⟩]) (h2 : Kd.string.C w ya 1 [countT]) :
    Calls Tryz.prog 62 #[.slice A 2 c] w fun e w' => copied_post w e w' := by
  have HC := Lib.hid hC
  have H1 := Lib.hid h1
  have H2 := Lib.hid h2
  clear hC h1 h2
  go_enter Tryz.func62, Tryz.ntmps62
  go_wp2_with (go_at_call 88; go_must (refine (cloneS_calls A c [(1, 0, ⟨xa, 1, xc⟩), (13, 1, ⟨ya, 1, yc⟩)] _ HC.out (by simp) (by simp)).mono ?_; rintro e w3 ⟨v3, rfl, hV3, hB3⟩; obtain ⟨g3, k3, rfl, hg3, hl3, cs0, hcs0⟩ := Kd.R_form hV3 (by simp)))
  obtain ⟨e0, e1, e2⟩ := tri_cells (fun x : Int × Int × SV => Value.int .i64 x.1) (fun x => Value.int .i64 x.2.1) (fun x => x.2.2.val) (Kd.R_reads' hV3).2.2 (sc_K w3) 0 (by simp)
  obtain ⟨e3, e4, e5⟩ := tri_cells (fun x : Int × Int × SV => Value.int .i64 x.1) (fun x => Value.int .i64 x.2.1) (fun x => x.2.2.val) (Kd.R_reads' hV3).2.2 (sc_K w3) 1 (by simp)
  have d0 : cs0[0]? = some (.int .i64 1) := (blk_cell hcs0 0).symm.trans e0
  have d1 : cs0[1]? = some (.int .i64 0) := (blk_cell hcs0 1).symm.trans e1
  have d2 : cs0[2]? = some (.slice xa 1 xc) := (blk_cell hcs0 2).symm.trans e2
  have d3 : cs0[3]? = some (.int .i64 13) := (blk_cell hcs0 3).symm.trans e3
  have d4 : cs0[4]? = some (.int .i64 1) := (blk_cell hcs0 4).symm.trans e4
  have d5 : cs0[5]? = some (.slice ya 1 yc) := (blk_cell hcs0 5).symm.trans e5
  have k2 : World.cell? w3 ⟨g3, 2, none⟩ = some (.slice xa 1 xc) := e2
  have D := Lib.hid (And.intro d0 (And.intro d1 (And.intro d2 (And.intro d3 (And.intro d4 d5)))))
  have B3 := Lib.hid hB3
  have G3 := Lib.hid hg3
  have L3 := Lib.hid hl3
  have C0 := Lib.hid hcs0
  clear e0 e1 e2 e3 e4 e5 d0 d1 d2 d3 d4 d5 hV3 hB3 hg3 hl3 hcs0
  refine wp_loop_rounds 3 ?_
  rw [rounds_succ]
  go_wp2_with (go_at_call 82; go_must (refine (clone_calls xa xc [⟨#[98]⟩] _ (Kd.C_below H1.out B3.out) (by simp)).mono ?_; rintro e w4 ⟨v4, rfl, hV4, hB4⟩; obtain ⟨A4, c4, rfl⟩ := Kd.R_slice hV4; have p4 := blk_below C0.out hB4; have q2 := (blk_cell p4 2).trans D.out.2.2.1; have f2 := blk_frozen p4 2))
  obtain ⟨cs1, hcs1⟩ : ∃ cs1, cs0.setIfInBounds 2 (.slice A4 1 c4) = cs1 := ⟨_, rfl⟩
  have p5 := blk_put p4 2 (.slice A4 1 c4) hcs1
  have b5 : Below w.heap.size w (w4.setCell ⟨g3, 2, none⟩ (.slice A4 1 c4)) := bw_set (bw_trans B3.out hB4) G3.out _
  have r5 : Kd.string.R 9 (w4.setCell ⟨g3, 2, none⟩ (.slice A4 1 c4)) w3.heap.size (fun k => w3.heap.size ≤ k) (.slice A4 1 c4) [⟨#[98]⟩] := Kd.R_far hV4 (p := ⟨g3, 2, none⟩) (fun k hk e => by have h1 := L3.out; have hk' : w3.heap.size ≤ k := hk; have e' : k = g3 := e; omega) _
  have z5 : g3 < (w4.setCell ⟨g3, 2, none⟩ (.slice A4 1 c4)).heap.size := blk_lt p5
  clear k2 q2 f2
  generalize w4.setCell ⟨g3, 2, none⟩ (.slice A4 1 c4) = W5 at p5 b5 r5 z5 ⊢
  have k5 : World.cell? W5 ⟨g3, 5, none⟩ = some (.slice ya 1 yc) := by
    rw [blk_cell p5 5, ← hcs1]; exact set_other D.out.2.2.2.2.2 (by decide)
  have P5 := Lib.hid p5
  have B5 := Lib.hid b5
  have R5 := Lib.hid r5
  have Z5 := Lib.hid z5
  have HCS1 := Lib.hid hcs1
  clear p5 b5 r5 z5 hcs1 hB4 hV4 p4
  rw [rounds_succ]
  go_wp2_with (go_at_call 82; go_must (refine (clone_calls ya yc [countT] _ (Kd.C_below H2.out B5.out) (by simp)).mono ?_; rintro e w6 ⟨v6, rfl, hV6, hB6⟩; obtain ⟨A6, c6, rfl⟩ := Kd.R_slice hV6; have p6 := blk_below P5.out hB6; have q6 := pw_cell_below hB6 k5; have f6 := blk_frozen p6 5))
  obtain ⟨cs2, hcs2⟩ : ∃ cs2, cs1.setIfInBounds 5 (.slice A6 1 c6) = cs2 := ⟨_, rfl⟩
  have p7 := blk_put p6 5 (.slice A6 1 c6) hcs2
  have b7 : Below w.heap.size w (w6.setCell ⟨g3, 5, none⟩ (.slice A6 1 c6)) := bw_set (bw_trans B5.out hB6) G3.out _
  have r7 : Kd.string.R 9 (w6.setCell ⟨g3, 5, none⟩ (.slice A6 1 c6)) W5.heap.size (fun k => W5.heap.size ≤ k) (.slice A6 1 c6) [countT] := Kd.R_far hV6 (p := ⟨g3, 5, none⟩) (fun k hk e => by have h1 := Z5.out; have hk' : W5.heap.size ≤ k := hk; have e' : k = g3 := e; omega) _
  have r5 : Kd.string.R 9 (w6.setCell ⟨g3, 5, none⟩ (.slice A6 1 c6)) w3.heap.size (fun k => w3.heap.size ≤ k) (.slice A4 1 c4) [⟨#[98]⟩] := Kd.R_far (Kd.R_below R5.out hB6) (p := ⟨g3, 5, none⟩) (fun k hk e => by have h1 := L3.out; have hk' : w3.heap.size ≤ k := hk; have e' : k = g3 := e; omega) _
  clear k5 q6 f6
  generalize w6.setCell ⟨g3, 5, none⟩ (.slice A6 1 c6) = W7 at p7 b7 r7 r5 ⊢
  have hst : StsAt W7 g3 ⟨A4, 1, c4⟩ ⟨A6, 1, c6⟩ := by
    obtain ⟨d0, d1, d2, d3, d4, d5⟩ := D.out
    refine ⟨?_, ?_, ?_, ?_, ?_, ?_, rfl, rfl, (Kd.R_reads' r5).2.2, (Kd.R_reads' r7).2.2⟩
    · rw [blk_cell p7 0, ← hcs2, ← HCS1.out]; exact set_other (set_other d0 (by decide)) (by decide)
    · rw [blk_cell p7 1, ← hcs2, ← HCS1.out]; exact set_other (set_other d1 (by decide)) (by decide)
    · rw [blk_cell p7 2, ← hcs2, ← HCS1.out]; exact set_other (set_same d2) (by decide)
    · rw [blk_cell p7 3, ← hcs2, ← HCS1.out]; exact set_other (set_other d3 (by decide)) (by decide)
    · rw [blk_cell p7 4, ← hcs2, ← HCS1.out]; exact set_other (set_other d4 (by decide)) (by decide)
    · rw [blk_cell p7 5, ← hcs2, ← HCS1.out]; exact set_same (set_other d5 (by decide))
  have HST := Lib.hid hst
  have B7 := Lib.hid b7
  clear hst b7 p7 r7 r5 hcs2 hB6 hV6 p6
  rw [rounds_succ]
  go_wp2_with fail
  go_ret
  exact ⟨g3, k3, _, _, rfl, HST.out, B7.out⟩
def new_post (w : World) (e : Ending) (w' : World) : Prop :=
  ∃ g c x y wN, e = .returned (.tuple #[.pointer (some ⟨wN.heap.size, 0, none⟩), .int .i64 0]) ∧ StsAt wN g x y ∧ Below w.heap.size w wN ∧ Below wN.heap.size wN w' ∧ w'.heap[wN.heap.size]? = some (.cells #[.slice (some ⟨g, 0, none⟩) 2 c, .slice none 0 0] 114 (0, 0))
set_option maxRecDepth 100000 in
set_option maxHeartbeats 2000000 in
theorem New_calls (A : Option Addr) (c : Nat) (xa ya : Option Addr) (xc yc : Nat) (w : World) (hS : stgK.C w A 2 [⟨1, 0, [⟨#[98]⟩]⟩, ⟨13, 1, [countT]⟩]) (hC : scK.C w A 2 [(1, 0, ⟨xa, 1, xc⟩), (13, 1, ⟨ya, 1, yc⟩)]) (h1 : Kd.string.C w xa 1 [⟨#[98]⟩]) (h2 : Kd.string.C w ya 1 [countT]) :
    Calls Tryz.prog 24 #[.slice A 2 c] w fun e w' => new_post w e w' := by
  have HC := Lib.hid hC
  have H1 := Lib.hid h1
  have H2 := Lib.hid h2
  have hr : rightE [⟨1, 0, [⟨#[98]⟩]⟩, ⟨13, 1, [countT]⟩] = 0 := by decide +kernel
  have HR := Lib.hid (Right_calls [⟨1, 0, [⟨#[98]⟩]⟩, ⟨13, 1, [countT]⟩] A c w hS (by decide +kernel))
  rw [hr] at HR
  clear hC h1 h2 hS hr
  go_enter Tryz.func24, Tryz.ntmps24
  go_wp2_with (first | (go_at_call 21; go_must (refine HR.out.mono ?_; rintro e w1 ⟨rfl, hB1⟩)) | (go_at_call 62; go_must (refine (copied_calls A c xa ya xc yc _ (Kd.C_below HC.out hB1) (Kd.C_below H1.out hB1) (Kd.C_below H2.out hB1)).mono ?_; rintro e w2 ⟨g, k, x, y, rfl, hS2, hB2⟩)))
  (try simp only [Exit.inBlock, Exit.then]); refine bodyPost_ret (results_list (rs := [.tmp _, .tmp _]) rfl (by simp) (.tmp (.tmp .nil))) rfl ?_
  exact ⟨g, k, x, y, w2, rfl, hS2, bw_trans hB1 hB2, below_alloc (Below.refl _ _) _, blk_new _ _⟩
end Go.Proofs.YtjcnjpljngabfaaGreatDoor
