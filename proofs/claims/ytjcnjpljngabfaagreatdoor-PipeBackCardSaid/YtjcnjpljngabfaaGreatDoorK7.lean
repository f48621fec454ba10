import Derived.Test.YtjcnjpljngabfaaGreatDoorK6
import Derived.StillTailTactics
namespace Go.Proofs.YtjcnjpljngabfaaGreatDoor
open Go.RowKit Go.Proofs.YtjcnjpljngabfaaGreatDoorW.PrintWords
set_option linter.unusedVariables false
/-! rows of two, ordered by the second text, falling -/
theorem rows_get {w : World} {b n : Nat} {rows : List (List BA)} (h : Kd.C (Kd.slice 9 Kd.string) w (some ⟨b, 0, none⟩) n rows) (i : Nat) (hi : i < n) :
    ∃ A c, w.cell? ⟨b, i, none⟩ = some (.slice A (rows.getD i []).length c) ∧ (rows.getD i []).length ≤ c ∧ Kd.string.C w A (rows.getD i []).length (rows.getD i []) := by
  obtain ⟨ad, cs, he, hl, ⟨A, c, rfl, hc, hr⟩, hcell⟩ := ReadsRow.get_ h [] i (by omega) (by omega)
  injection he with he; subst he
  rw [Int.toNat_natCast] at hc hr hcell
  have h0 := hcell 0 _ rfl
  refine ⟨A, c, ?_, hc, hr⟩
  rw [← h0]
  congr 1
  simp [Addr.add, Kd.slice]
/-- two rows, their second texts -/
structure RawAt (w : World) (b : Nat) (s t : BA) : Prop where
  first : ∃ g o c, w.cell? ⟨b, 0, none⟩ = some (.slice (some ⟨g, o, none⟩) 2 c) ∧ w.cell? ⟨g, o + 1, none⟩ = some (.string s)
  second : ∃ g o c, w.cell? ⟨b, 1, none⟩ = some (.slice (some ⟨g, o, none⟩) 2 c) ∧ w.cell? ⟨g, o + 1, none⟩ = some (.string t)
theorem RawAt.below {w w1 : World} {b : Nat} {s t : BA} (h : RawAt w b s t) (hb : Below w.heap.size w w1) : RawAt w1 b s t := by
  obtain ⟨⟨g, o, c, h1, h2⟩, ⟨g', o', c', h3, h4⟩⟩ := h
  exact ⟨⟨g, o, c, pw_cell_below hb h1, pw_cell_below hb h2⟩, ⟨g', o', c', pw_cell_below hb h3, pw_cell_below hb h4⟩⟩
theorem RawAt.of_C {w : World} {b : Nat} {p s q t : BA} (h : Kd.C (Kd.slice 9 Kd.string) w (some ⟨b, 0, none⟩) 2 [[p, s], [q, t]]) : RawAt w b s t := by
  obtain ⟨A, c, h1, _, h2⟩ := rows_get h 0 (by omega)
  obtain ⟨A', c', h3, _, h4⟩ := rows_get h 1 (by omega)
  obtain ⟨g, o, rfl, h5⟩ := strs_plain h2 (by simp)
  obtain ⟨g', o', rfl, h6⟩ := strs_plain h4 (by simp)
  exact ⟨⟨g, o, c, h1, h5 1 (by simp)⟩, ⟨g', o', c', h3, h6 1 (by simp)⟩⟩
set_option maxRecDepth 100000 in
set_option maxHeartbeats 1000000 in
theorem cell1_calls (g o c bk : Nat) (s : BA) (w : World) (hk : w.heap[bk]? = some (.cells #[.int .i64 1] 3 (0, 0))) (hc : w.cell? ⟨g, o + 1, none⟩ = some (.string s)) :
    Calls Tryz.prog 273 #[.slice (some ⟨g, o, none⟩) 2 c, .pointer (some ⟨bk, 0, none⟩)] w fun e w' => e = .returned (.string s) ∧ w = w' := by
  have k0 := blk_cell hk 0
  go_enter Tryz.func273, Tryz.ntmps273
  go_wp2_with fail
  go_ret
  exact ⟨rfl, rfl⟩
set_option maxRecDepth 100000 in
set_option maxHeartbeats 1000000 in
theorem ordR_calls (bf bo bk g o c g' o' c' : Nat) (x y : BA) (r : Int) (hb : ∀ W, Calls Tryz.prog 279 #[.string y, .string x] W fun e w' => e = .returned (.int .i64 r) ∧ Below W.heap.size W w') (w : World) (h1 : w.heap[bf]? = some (.cells #[.bool true] 4 (0, 0))) (h2 : w.heap[bo]? = some (.cells #[.func (.func 273) #[] #[.pointer (some ⟨bk, 0, none⟩)]] 343 (0, 0))) (h3 : w.heap[bk]? = some (.cells #[.int .i64 1] 3 (0, 0))) (hx : w.cell? ⟨g, o + 1, none⟩ = some (.string x)) (hy : w.cell? ⟨g', o' + 1, none⟩ = some (.string y)) :
    Calls Tryz.prog 278 #[.slice (some ⟨g, o, none⟩) 2 c, .slice (some ⟨g', o', none⟩) 2 c', .pointer (some ⟨bf, 0, none⟩), .pointer (some ⟨bo, 0, none⟩)] w fun e w' => e = .returned (.int .i64 r) ∧ Below w.heap.size w w' := by
  have HB := Lib.hid hb
  have H3 := Lib.hid h3
  have HX := Lib.hid hx
  have HY := Lib.hid hy
  have c1 := blk_cell h1 0
  have c2 := blk_cell h2 0
  clear hb h3 hx hy
  go_enter Tryz.func278, Tryz.ntmps278
  go_wp2_with fail
  have HX1 : Hid (World.cell? w.drew ⟨g, o + 1, none⟩ = some (.string x)) := Lib.hid HX.out
  have HY1 : Hid (World.cell? w.drew ⟨g', o' + 1, none⟩ = some (.string y)) := Lib.hid HY.out
  have HK1 := Lib.hid (blk_drew H3.out)
  go_region_with (first | ((with_reducible refine Calls.mono (cell1_calls g o c bk x _ HK1.out HX1.out) ?_); rintro e w' ⟨rfl, rfl⟩) | ((with_reducible refine Calls.mono (cell1_calls g' o' c' bk y _ HK1.out HY1.out) ?_); rintro e w' ⟨rfl, rfl⟩) | (go_at_call 279; (with_reducible refine Calls.mono (HB.out _) ?_); rintro e w5 ⟨rfl, hB5⟩))
  all_goals
    go_wp2_with fail
    go_ret
    exact ⟨rfl, bw_trans (below_drew (Below.refl _ _)) hB5⟩
set_option maxRecDepth 100000 in
set_option maxHeartbeats 4000000 in
theorem insR_calls (b c bf bo bk : Nat) (s t : BA) (r : Int) (hr : r = 0 ∨ r = 1) (hb : ∀ W, Calls Tryz.prog 279 #[.string s, .string t] W fun e w' => e = .returned (.int .i64 r) ∧ Below W.heap.size W w') (w : World) (h1 : w.heap[bf]? = some (.cells #[.bool true] 4 (0, 0))) (h2 : w.heap[bo]? = some (.cells #[.func (.func 273) #[] #[.pointer (some ⟨bk, 0, none⟩)]] 343 (0, 0))) (h3 : w.heap[bk]? = some (.cells #[.int .i64 1] 3 (0, 0))) (hR : RawAt w b s t) :
    Calls Tryz.prog 285 #[.slice (some ⟨b, 0, none⟩) 2 c, .int .i64 0, .int .i64 2, .func (.func 278) #[] #[.pointer (some ⟨bf, 0, none⟩), .pointer (some ⟨bo, 0, none⟩)]] w fun e w' =>
      e = .returned (.tuple #[]) ∧ Below w.heap.size w w' := by
  obtain ⟨⟨g, o, k, c0, d0⟩, ⟨g', o', k', c1, d1⟩⟩ := hR
  have HB := Lib.hid hb
  have H1 := Lib.hid (blk_drew h1)
  have H2 := Lib.hid (blk_drew h2)
  have H3 := Lib.hid (blk_drew h3)
  have D0 : Hid (World.cell? w.drew ⟨g, o + 1, none⟩ = some (.string s)) := Lib.hid d0
  have D1 : Hid (World.cell? w.drew ⟨g', o' + 1, none⟩ = some (.string t)) := Lib.hid d1
  have hlt : ¬ (r < 0) := by omega
  have HR := Lib.hid hr
  clear hb h1 h2 h3 d0 d1 hr
  go_enter Tryz.func285, Tryz.ntmps285
  go_wp2_with fail
  refine wp_loop_rounds 2 ?_
  rw [rounds_succ]
  go_wp2_with fail
  refine wp_loop_rounds 1 ?_
  rw [rounds_succ]
  go_wp2_with fail
  have hw0 : IntKind.i64.wrap 0 = 0 := by decide
  go_still_tail 14, (by kernel_rfl)
  change wpList _ _ _ _ _ w.drew
  go_wp2_with ((with_reducible refine Calls.mono (ordR_calls bf bo bk g' o' k' g o k t s r HB.out _ H1.out H2.out H3.out D1.out D0.out) ?_); rintro e w5 ⟨rfl, hB5⟩)
  rw [rounds_succ]
  go_wp2_with fail
  first | go_end0 | ((try simp only [Exit.inBlock, Exit.then]); refine bodyPost_ret (results_none rfl _ _ _) rfl ?_)
  exact ⟨rfl, bw_trans (below_drew (Below.refl _ _)) hB5⟩
set_option maxRecDepth 100000 in
set_option maxHeartbeats 4000000 in
theorem stabR_calls (b c bf bo bk : Nat) (s t : BA) (r : Int) (hr : r = 0 ∨ r = 1) (hb : ∀ W, Calls Tryz.prog 279 #[.string s, .string t] W fun e w' => e = .returned (.int .i64 r) ∧ Below W.heap.size W w') (w : World) (h1 : w.heap[bf]? = some (.cells #[.bool true] 4 (0, 0))) (h2 : w.heap[bo]? = some (.cells #[.func (.func 273) #[] #[.pointer (some ⟨bk, 0, none⟩)]] 343 (0, 0))) (h3 : w.heap[bk]? = some (.cells #[.int .i64 1] 3 (0, 0))) (hR : RawAt w b s t) :
    Calls Tryz.prog 277 #[.slice (some ⟨b, 0, none⟩) 2 c, .func (.func 278) #[] #[.pointer (some ⟨bf, 0, none⟩), .pointer (some ⟨bo, 0, none⟩)]] w fun e w' =>
      e = .returned (.tuple #[]) ∧ Below w.heap.size w w' := by
  have HI := Lib.hid (insR_calls b c bf bo bk s t r hr hb w h1 h2 h3 hR)
  clear hb h1 h2 h3 hR hr
  have hst : Calls Tryz.prog 282 #[.slice (some ⟨b, 0, none⟩) 2 c, .int .i64 2, .func (.func 278) #[] #[.pointer (some ⟨bf, 0, none⟩), .pointer (some ⟨bo, 0, none⟩)]] w fun e w' =>
      e = .returned (.tuple #[]) ∧ Below w.heap.size w w' := by
    go_enter Tryz.func282, Tryz.ntmps282
    go_wp2_with fail
    refine wp_loop_rounds 1 ?_
    rw [rounds_succ]
    go_wp2_with (go_at_call 285; go_must (refine HI.out.mono ?_; rintro e w1 ⟨rfl, hG1⟩))
    refine wp_loop_rounds 1 ?_
    rw [rounds_succ]
    go_wp2_with fail
    first | go_end0 | ((try simp only [Exit.inBlock, Exit.then]); refine bodyPost_ret (results_none rfl _ _ _) rfl ?_)
    exact ⟨rfl, hG1⟩
  have HS := Lib.hid hst
  clear hst
  go_enter Tryz.func277, Tryz.ntmps277
  go_wp2_with (go_at_call 282; go_must (refine HS.out.mono ?_; rintro e w1 ⟨rfl, hG1⟩))
  first | go_end0 | ((try simp only [Exit.inBlock, Exit.then]); refine bodyPost_ret (results_none rfl _ _ _) rfl ?_)
  exact ⟨rfl, hG1⟩
end Go.Proofs.YtjcnjpljngabfaaGreatDoor
