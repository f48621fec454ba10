import Derived.Test.YtjcnjpljngabfaaGreatDoorK8
namespace Go.Proofs.YtjcnjpljngabfaaGreatDoor
open Go.RowKit Go.Proofs.YtjcnjpljngabfaaGreatDoorW.PrintWords
set_option linter.unusedVariables false
/-! sorted.run behind a table of two rows -/
theorem sv_cell {w : World} {b n c base : Nat} {ok : Nat → Prop} {l : List SV} (h : svK.R 41 w base ok (.slice (some ⟨b, 0, none⟩) n c) l) (i : Nat) (hi : i < n) : w.cell? ⟨b, i, none⟩ = some (SV.val (l.getD i ⟨none, 0, 0⟩)) := by
  have h1 := (Kd.R_celln (enc := SV.val) ⟨none, 0, 0⟩ h i (by omega) (by omega)).1
  exact h1
theorem RawAt.of_sv {w : World} {b c base : Nat} {ok : Nat → Prop} {x y : SV} {p s q t : BA} (h : svK.R 41 w base ok (.slice (some ⟨b, 0, none⟩) 2 c) [x, y]) (hx : x.n = 2) (hy : y.n = 2) (h1 : Kd.string.C w x.a 2 [p, s]) (h2 : Kd.string.C w y.a 2 [q, t]) : RawAt w b s t := by
  obtain ⟨xa, xn, xc⟩ := x
  obtain ⟨ya, yn, yc⟩ := y
  simp only at hx hy h1 h2
  subst hx hy
  obtain ⟨g, o, rfl, h5⟩ := strs_plain h1 (by simp)
  obtain ⟨g', o', rfl, h6⟩ := strs_plain h2 (by simp)
  exact ⟨⟨g, o, xc, sv_cell h 0 (by omega), h5 1 (by simp)⟩, ⟨g', o', yc, sv_cell h 1 (by omega), h6 1 (by simp)⟩⟩
set_option maxRecDepth 100000 in
set_option maxHeartbeats 1000000 in
theorem ordRows_calls (A : Option Addr) (c bk : Nat) (x y : SV) (p s q t : BA) (r : Int) (hr : r = 0 ∨ r = 1) (hb : ∀ W, Calls Tryz.prog 279 #[.string s, .string t] W fun e w' => e = .returned (.int .i64 r) ∧ Below W.heap.size W w') (w : World) (h3 : w.heap[bk]? = some (.cells #[.int .i64 1] 3 (0, 0))) (hC : svK.C w A 2 [x, y]) (hx : x.n = 2) (hy : y.n = 2) (h1 : Kd.string.C w x.a 2 [p, s]) (h2 : Kd.string.C w y.a 2 [q, t]) :
    Calls Tryz.prog 272 #[.slice A 2 c, .func (.func 273) #[] #[.pointer (some ⟨bk, 0, none⟩)], .bool true] w fun e w' => ∃ v, e = .returned v ∧ svK.R 41 w' w.heap.size (fun k => w.heap.size ≤ k) v [x, y] ∧ Below w.heap.size w w' := by
  have hmf : ∀ (fn : Fn) (first cap : Array Value) (w : World), (Instr.makeFunc fn first cap).run Tryz.prog w = .ok (.func fn first cap) w := fun _ _ _ _ => rfl
  have HB := Lib.hid hb
  have HC := Lib.hid hC
  have HX := Lib.hid hx
  have HY := Lib.hid hy
  have HI := Lib.hid h1
  have HJ := Lib.hid h2
  have H3 := Lib.hid h3
  have HR := Lib.hid hr
  have z0 := blk_new w (.cells #[.func (.func 273) #[] #[.pointer (some ⟨bk, 0, none⟩)]] 343 (0, 0))
  have z1 := blk_newn' (n := w.heap.size + 1) (w.alloc (.cells #[.func (.func 273) #[] #[.pointer (some ⟨bk, 0, none⟩)]] 343 (0, 0))) (.cells #[.bool true] 4 (0, 0)) (by simp)
  have Z0 := Lib.hid (blk_alloc z0 (.cells #[.bool true] 4 (0, 0)))
  have Z1 := Lib.hid z1
  have hw : Below w.heap.size w ((w.alloc (.cells #[.func (.func 273) #[] #[.pointer (some ⟨bk, 0, none⟩)]] 343 (0, 0))).alloc (.cells #[.bool true] 4 (0, 0))) := (by repeat (first | assumption | (with_reducible apply below_alloc) | (with_reducible apply pw_below_drewN) | (with_reducible apply below_drew) | (with_reducible apply Below.refl) | (with_reducible refine bw_set ?_ (by first | (dsimp only; omega) | omega | (simp; done) | (simp; omega)) _)))
  have HW := Lib.hid hw
  clear hb hC z0 z1 hx hy h1 h2 h3 hr hw
  go_enter Tryz.func272, Tryz.ntmps272
  go_wp2_with (first | (go_at_call 276; go_must (refine (cloneR_calls A c [x, y] _ (Kd.C_below HC.out HW.out) (by simp) (by simp)).mono ?_; rintro e w3 ⟨v3, rfl, hV3, hB3⟩; have hV3 := R_wide (base := w.heap.size) hV3 (by simp; omega); obtain ⟨g3, k3, rfl, hg3, hl3, _⟩ := Kd.R_form hV3 (by simp); have b3 := bw_trans HW.out hB3)) | (go_at_call 277; go_must (refine (stabR_calls g3 k3 (w.heap.size + 1) w.heap.size bk s t r HR.out HB.out _ (blk_below Z1.out hB3) (blk_below Z0.out hB3) (blk_below H3.out b3) (RawAt.of_sv hV3 HX.out HY.out (Kd.C_below HI.out b3) (Kd.C_below HJ.out b3))).mono ?_; rintro e w4 ⟨rfl, hB4⟩)))
  go_ret
  exact ⟨_, rfl, Kd.R_below hV3 hB4, bw_trans b3 hB4⟩
def sorted_post (bf : Nat) (vh vx : Value) (x y : SV) (w : World) (e : Ending) (w' : World) : Prop :=
  e = .returned (.tuple #[]) ∧ w.grownBy w' (some bf) ∧ ∃ v, w'.heap[bf]? = some (.cells #[vh, .bool true, vx, v] 119 (0, 0)) ∧ svK.R 41 w' w.heap.size (fun k => w.heap.size ≤ k) v [x, y]
theorem idx_count : Lib.idxOfS [⟨#[98]⟩, countT] countT = 1 := by decide +kernel
set_option maxRecDepth 100000 in
set_option maxHeartbeats 4000000 in
theorem sorted_calls (bf c ch : Nat) (A Ah : Option Addr) (vh : Value) (x y : SV) (p s q t : BA) (r : Int) (hr : r = 0 ∨ r = 1) (hb : ∀ W, Calls Tryz.prog 279 #[.string s, .string t] W fun e w' => e = .returned (.int .i64 r) ∧ Below W.heap.size W w') (w : World) (hf : w.heap[bf]? = some (.cells #[vh, .bool true, .slice Ah 2 ch, .slice A 2 c] 119 (0, 0))) (hH : Kd.string.C w Ah 2 [⟨#[98]⟩, countT]) (hC : svK.C w A 2 [x, y]) (hx : x.n = 2) (hy : y.n = 2) (h1 : Kd.string.C w x.a 2 [p, s]) (h2 : Kd.string.C w y.a 2 [q, t]) :
    Calls Tryz.prog 271 #[.agg #[.string countT, .bool true], .pointer (some ⟨bf, 0, none⟩)] w fun e w' => sorted_post bf vh (.slice Ah 2 ch) x y w e w' := by
  have hmf : ∀ (fn : Fn) (first cap : Array Value) (w : World), (Instr.makeFunc fn first cap).run Tryz.prog w = .ok (.func fn first cap) w := fun _ _ _ _ => rfl
  have HB := Lib.hid hb
  have HC := Lib.hid hC
  have HX := Lib.hid hx
  have HY := Lib.hid hy
  have HI := Lib.hid h1
  have HJ := Lib.hid h2
  have HR := Lib.hid hr
  have HF := Lib.hid hf
  obtain ⟨gh, oh, rfl, hcells⟩ := strs_plain hH (by omega)
  have HH := Lib.hid hcells
  have z0 := blk_new w (.cells #[.string countT, .bool true] 165 (0, 0))
  have f0 := blk_alloc hf (.cells #[.string countT, .bool true] 165 (0, 0))
  have za := blk_cell z0 0; have zb := blk_cell z0 1; have zx := blk_frozen z0 0; have zy := blk_frozen z0 1; have zl := blk_lt z0
  have fa := blk_cell f0 0; have fb := blk_cell f0 1; have fc := blk_cell f0 2; have fd := blk_cell f0 3; have fl := blk_lt f0
  have z1 := blk_alloc z0 (.cells #[.int .i64 0] 3 (0, 0))
  have f1 := blk_alloc f0 (.cells #[.int .i64 0] 3 (0, 0))
  have ya := blk_cell z1 0; have yb := blk_cell z1 1; have yx := blk_frozen z1 0; have yy := blk_frozen z1 1; have yl := blk_lt z1
  have ua := blk_cell f1 0; have ub := blk_cell f1 1; have uc := blk_cell f1 2; have ud := blk_cell f1 3; have ul := blk_lt f1
  have hw : Below w.heap.size w (w.alloc (.cells #[.string countT, .bool true] 165 (0, 0))) := (by repeat (first | assumption | (with_reducible apply below_alloc) | (with_reducible apply pw_below_drewN) | (with_reducible apply below_drew) | (with_reducible apply Below.refl) | (with_reducible refine bw_set ?_ (by first | (dsimp only; omega) | omega | (simp; done) | (simp; omega)) _)))
  have HW := Lib.hid hw
  have HIX : Hid (∀ W, Below w.heap.size w W → Calls Tryz.prog 104 #[.slice (some ⟨gh, oh, none⟩) 2 ch, .string countT] W fun e w' => e = .returned (.int .i64 1) ∧ w' = W) := Lib.hid (fun W hB => by
    have h := Tryz.slices_Index_string gh oh 2 ch [⟨#[98]⟩, countT] countT W (Nat.le_refl _) (by decide) (fun j hj => pw_cell_below hB (hcells j hj))
    rw [show [(⟨#[98]⟩ : BA), countT].take 2 = [⟨#[98]⟩, countT] from rfl, idx_count] at h
    exact h)
  clear hb hC hx hy h1 h2 hr hf hH hcells hw
  go_enter Tryz.func271, Tryz.ntmps271
  go_wp2_with fail
  go_cut [4] (fun v4 wx => ∃ bk, v4 = .pointer (some ⟨bk, 0, none⟩) ∧ w.heap.size < bk ∧ wx.heap[bk]? = some (.cells #[.int .i64 1] 3 (0, 0)) ∧ Below (w.alloc (.cells #[.string countT, .bool true] 165 (0, 0))).heap.size (w.alloc (.cells #[.string countT, .bool true] 165 (0, 0))) wx)
  case first =>
    as_aux_lemma =>
      go_region_with (go_at_call 104; refine Calls.mono (HIX.out _ (by repeat (first | assumption | (with_reducible apply below_alloc) | (with_reducible apply pw_below_drewN) | (with_reducible apply below_drew) | (with_reducible apply Below.refl) | (with_reducible refine bw_set ?_ (by first | (dsimp only; omega) | omega | (simp; done) | (simp; omega)) _)))) ?_; rintro e w' ⟨rfl, rfl⟩)
      all_goals
        go_wp2_with fail
        go_meet
        exact ⟨_, rfl, Nat.lt_succ_self _, blk_drew (blk_newn _ _ (by simp)), below_drew (below_alloc (Below.refl _ _) _)⟩
  case rest =>
    obtain ⟨bk, rfl, hbk, h3, hB⟩ := hcut
    have H3 := Lib.hid (blk_drew h3)
    have Bw := Lib.hid (below_drew (bw_trans HW.out hB))
    have z2 := blk_below z0 hB
    have f2 := blk_below f0 hB
    have F2 := Lib.hid f2
    clear z1 f1 ya yb yx yy yl ua ub uc ud ul za zb zx zy zl fa fb fc fd fl z0 f0 h3
    have za := blk_cell z2 0; have zb := blk_cell z2 1; have zx := blk_frozen z2 0; have zy := blk_frozen z2 1; have zl := blk_lt z2
    have fa := blk_cell f2 0; have fb := blk_cell f2 1; have fc := blk_cell f2 2; have fd := blk_cell f2 3; have fl := blk_lt f2
    go_wp2_with fail
    go_region_with (go_at_call 272; refine Calls.mono (ordRows_calls A c bk x y p s q t r HR.out HB.out _ H3.out (Kd.C_below HC.out Bw.out) HX.out HY.out (Kd.C_below HI.out Bw.out) (Kd.C_below HJ.out Bw.out)) ?_; rintro e w4 ⟨v4, rfl, hV4, hB4⟩; obtain ⟨A4, c4, rfl⟩ := Kd.R_slice hV4; have f4 := blk_below (blk_drew F2.out) hB4; have ga := blk_cell f4 3; have gx := blk_frozen f4 3)
    all_goals
      go_wp2_with fail
      first | go_end0 | ((try simp only [Exit.inBlock, Exit.then]); refine bodyPost_ret (results_none rfl _ _ _) rfl ?_)
      exact ⟨rfl, gb_set (g := bf) (gb_below (grown_of_below Bw.out (some bf)) hB4) (.inl rfl) _, _, blk_set f4 3 _, R_wide (Kd.R_far hV4 (fun k hk e => by have h1 := blk_lt HF.out; have h2 := Bw.out.size; simp only at e; omega) _) Bw.out.size⟩
end Go.Proofs.YtjcnjpljngabfaaGreatDoor
