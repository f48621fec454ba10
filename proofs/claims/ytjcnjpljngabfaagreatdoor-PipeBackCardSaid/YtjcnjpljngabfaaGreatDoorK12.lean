import Derived.Test.YtjcnjpljngabfaaGreatDoorK11
namespace Go.Proofs.YtjcnjpljngabfaaGreatDoor
open Go.RowKit Go.Proofs.YtjcnjpljngabfaaGreatDoorW.PrintWords
set_option linter.unusedVariables false
/-! same, Merge at the example -/
set_option maxRecDepth 100000 in
set_option maxHeartbeats 2000000 in
theorem sameF_calls (k n : Int) (A : Option Addr) (c : Nat) (b : BA) (w : World) (hC : Kd.string.C w A 1 [b]) :
    Calls Tryz.prog 90 #[.agg #[.int .i64 k, .int .i64 n, .slice A 1 c], .agg #[.int .i64 k, .int .i64 n, .slice A 1 c]] w fun e w' => e = .returned (.bool true) ∧ Below w.heap.size w w' := by
  obtain ⟨g, o, rfl, hc⟩ := strs_plain hC (by omega)
  have z0 := blk_alloc (blk_new w (.cells #[.int .i64 k, .int .i64 n, .slice (some ⟨g, o, none⟩) 1 c] 43 (0, 0))) (.cells #[.int .i64 k, .int .i64 n, .slice (some ⟨g, o, none⟩) 1 c] 43 (0, 0))
  have z1 := blk_newn' (n := w.heap.size + 1) (w.alloc (.cells #[.int .i64 k, .int .i64 n, .slice (some ⟨g, o, none⟩) 1 c] 43 (0, 0))) (.cells #[.int .i64 k, .int .i64 n, .slice (some ⟨g, o, none⟩) 1 c] 43 (0, 0)) (by simp)
  have za := blk_cell z0 0; have zb := blk_cell z0 1; have zc := blk_cell z0 2; have zx := blk_frozen z0 0; have zy := blk_frozen z0 1; have zz := blk_frozen z0 2; have zl := blk_lt z0
  have ya := blk_cell z1 0; have yb := blk_cell z1 1; have yc := blk_cell z1 2; have yx := blk_frozen z1 0; have yy := blk_frozen z1 1; have yz := blk_frozen z1 2; have yl := blk_lt z1
  have HE : Hid (∀ W, Below w.heap.size w W → Calls Tryz.prog 91 #[.slice (some ⟨g, o, none⟩) 1 c, .slice (some ⟨g, o, none⟩) 1 c] W fun e w' => e = .returned (.bool true) ∧ ∃ q, w' = W.drewN q) := Lib.hid (fun W hB => by
    have hcc : ∀ j, j < [b].length → W.cell? ⟨g, o + j, none⟩ = some (.string ([b].getD j ByteArray.empty)) := fun j hj => pw_cell_below hB (hc j hj)
    have h := Tryz.slices_Equal_string g o 1 c g o 1 c [b] [b] W (by simp) (by simp) (by decide) (by decide) hcc hcc
    simpa using h)
  have hk : (k == k) = true := by simp
  have hn : (n == n) = true := by simp
  clear hc hC z0 z1
  go_enter Tryz.func90, Tryz.ntmps90
  go_wp2_with (go_at_call 91; refine Calls.mono (HE.out _ (by repeat (first | assumption | (with_reducible apply below_alloc) | (with_reducible apply pw_below_drewN) | (with_reducible apply below_drew) | (with_reducible apply Below.refl) | (with_reducible refine bw_set ?_ (by first | (dsimp only; omega) | omega | (simp; done) | (simp; omega)) _)))) ?_; rintro e w' ⟨rfl, q, rfl⟩)
  go_ret
  exact ⟨rfl, (by repeat (first | assumption | (with_reducible apply below_alloc) | (with_reducible apply pw_below_drewN) | (with_reducible apply below_drew) | (with_reducible apply Below.refl) | (with_reducible refine bw_set ?_ (by first | (dsimp only; omega) | omega | (simp; done) | (simp; omega)) _)))⟩
set_option maxRecDepth 100000 in
set_option maxHeartbeats 2000000 in
theorem same_calls (g c : Nat) (x y : SV) (w : World) (hS : StsAt w g x y) :
    Calls Tryz.prog 63 #[.slice (some ⟨g, 0, none⟩) 2 c, .slice (some ⟨g, 0, none⟩) 2 c] w fun e w' => e = .returned (.bool true) ∧ Below w.heap.size w w' := by
  obtain ⟨xa, xn, xc⟩ := x
  obtain ⟨ya, yn, yc⟩ := y
  obtain rfl : xn = 1 := hS.nx
  obtain rfl : yn = 1 := hS.ny
  have hEq : Calls Tryz.prog 89 #[.slice (some ⟨g, 0, none⟩) 2 c, .slice (some ⟨g, 0, none⟩) 2 c, .func (.func 90) #[] #[]] w fun e w' => e = .returned (.bool true) ∧ Below w.heap.size w w' := by
    have HS := Lib.hid hS
    have hS' := hS.below (below_alloc (Below.refl _ _) (.cells #[.int .i64 1, .int .i64 0, .slice xa 1 xc] 43 (0, 0)))
    (have ka := hS.a0; have kb := hS.a1; have kc : World.cell? w ⟨g, 2, none⟩ = some (.slice xa 1 xc) := hS.a2)
    (have la := hS'.a0; have lb := hS'.a1; have lc : World.cell? (w.alloc (.cells #[.int .i64 1, .int .i64 0, .slice xa 1 xc] 43 (0, 0))) ⟨g, 2, none⟩ = some (.slice xa 1 xc) := hS'.a2)
    clear hS hS'
    go_enter Tryz.func89, Tryz.ntmps89
    have t0 := blk_alloc (blk_new w (.cells #[.int .i64 1, .int .i64 0, .slice xa 1 xc] 43 (0, 0))) (.cells #[.int .i64 1, .int .i64 0, .slice xa 1 xc] 43 (0, 0))
    have t1 := blk_newn' (n := w.heap.size + 1) (w.alloc (.cells #[.int .i64 1, .int .i64 0, .slice xa 1 xc] 43 (0, 0))) (.cells #[.int .i64 1, .int .i64 0, .slice xa 1 xc] 43 (0, 0)) (by simp)
    have pa := blk_cell t0 0; have pb := blk_cell t0 1; have pc := blk_cell t0 2; have px := blk_frozen t0 0; have py := blk_frozen t0 1; have pz := blk_frozen t0 2; have pl := blk_lt t0
    have qa := blk_cell t1 0; have qb := blk_cell t1 1; have qc := blk_cell t1 2; have qx := blk_frozen t1 0; have qy := blk_frozen t1 1; have qz := blk_frozen t1 2; have ql := blk_lt t1
    clear t0 t1
    go_wp2_with fail
    refine wp_loop_rounds 3 ?_
    rw [rounds_succ]
    go_wp2_with ((with_reducible refine Calls.mono (sameF_calls _ _ xa xc _ _ (Kd.C_alloc (Kd.C_alloc HS.out.cx _) _)) ?_); rintro e w5 ⟨rfl, hB5⟩)
    have B5 := Lib.hid (bw_trans (below_alloc (below_alloc (Below.refl _ _) (.cells #[.int .i64 1, .int .i64 0, .slice xa 1 xc] 43 (0, 0))) (.cells #[.int .i64 1, .int .i64 0, .slice xa 1 xc] 43 (0, 0))) hB5)
    clear ka kb kc la lb lc pa pb pc px py pz pl qa qb qc qx qy qz ql hB5
    have hS := HS.out.below B5.out
    have hS' := hS.below (below_alloc (Below.refl _ _) (.cells #[.int .i64 13, .int .i64 1, .slice ya 1 yc] 43 (0, 0)))
    (have ka := hS.b0; have kb := hS.b1; have kc : World.cell? w5 ⟨g, 5, none⟩ = some (.slice ya 1 yc) := hS.b2)
    (have la := hS'.b0; have lb := hS'.b1; have lc : World.cell? (w5.alloc (.cells #[.int .i64 13, .int .i64 1, .slice ya 1 yc] 43 (0, 0))) ⟨g, 5, none⟩ = some (.slice ya 1 yc) := hS'.b2)
    have CY := Lib.hid hS'.cy
    clear hS hS'
    have t0 := blk_alloc (blk_new w5 (.cells #[.int .i64 13, .int .i64 1, .slice ya 1 yc] 43 (0, 0))) (.cells #[.int .i64 13, .int .i64 1, .slice ya 1 yc] 43 (0, 0))
    have t1 := blk_newn' (n := w5.heap.size + 1) (w5.alloc (.cells #[.int .i64 13, .int .i64 1, .slice ya 1 yc] 43 (0, 0))) (.cells #[.int .i64 13, .int .i64 1, .slice ya 1 yc] 43 (0, 0)) (by simp)
    have pa := blk_cell t0 0; have pb := blk_cell t0 1; have pc := blk_cell t0 2; have px := blk_frozen t0 0; have py := blk_frozen t0 1; have pz := blk_frozen t0 2; have pl := blk_lt t0
    have qa := blk_cell t1 0; have qb := blk_cell t1 1; have qc := blk_cell t1 2; have qx := blk_frozen t1 0; have qy := blk_frozen t1 1; have qz := blk_frozen t1 2; have ql := blk_lt t1
    clear t0 t1
    rw [rounds_succ]
    go_wp2_with ((with_reducible refine Calls.mono (sameF_calls _ _ ya yc _ _ (Kd.C_alloc CY.out _)) ?_); rintro e w6 ⟨rfl, hB6⟩)
    rw [rounds_succ]
    go_wp2_with fail
    go_ret
    exact ⟨rfl, bw_trans B5.out (bw_trans (below_alloc (below_alloc (Below.refl _ _) _) _) hB6)⟩
  have HE := Lib.hid hEq
  clear hEq
  go_enter Tryz.func63, Tryz.ntmps63
  go_wp2_with (go_at_call 89; refine Calls.mono HE.out ?_; rintro e w' ⟨rfl, hB⟩)
  go_ret
  exact ⟨rfl, hB⟩
def merge_post (P : Nat) (vs : Value) (hs : List (Int × Int × BA)) (w : World) (e : Ending) (w' : World) : Prop :=
  e = .returned (.int .i64 0) ∧ Below P w w' ∧ ∃ v, w'.heap[P]? = some (.cells #[vs, v] 114 (0, 0)) ∧ hitK.R 58 w' (P + 1) (fun k => P + 1 ≤ k) v hs
set_option maxRecDepth 100000 in
set_option maxHeartbeats 2000000 in
theorem Merge_calls (P g c : Nat) (x y : SV) (vh : Value) (hs : List (Int × Int × BA)) (w : World) (hp : w.heap[P]? = some (.cells #[.slice (some ⟨g, 0, none⟩) 2 c, vh] 114 (0, 0))) (hS : StsAt w g x y) (hH : hitK.R 58 w (P + 1) (fun k => P + 1 ≤ k) vh hs) (hl : hs.length ≤ 1000) :
    Calls Tryz.prog 29 #[.pointer (some ⟨P, 0, none⟩), .pointer (some ⟨P, 0, none⟩)] w fun e w' => merge_post P (.slice (some ⟨g, 0, none⟩) 2 c) (hs ++ hs) w e w' := by
  obtain ⟨A, ca, rfl⟩ := Kd.R_slice hH
  have HH := Lib.hid hH
  have HL := Lib.hid hl
  have HP := Lib.hid hp
  have HS := Lib.hid hS
  have p0 := blk_drew hp
  have pa := blk_cell p0 0; have pb := blk_cell p0 1; have px := blk_frozen p0 0; have py := blk_frozen p0 1; have pl := blk_lt p0
  clear hH hl hp hS p0
  go_enter Tryz.func29, Tryz.ntmps29
  go_wp2_with fail
  go_region_with (go_at_call 63; refine Calls.mono (same_calls g c x y _ (HS.out.below (below_drew (Below.refl _ _)))) ?_; rintro e w1 ⟨rfl, hB1⟩)
  all_goals
    have B1 := Lib.hid (bw_trans (below_drew (Below.refl _ w)) hB1)
    have p1 := blk_drew (blk_below HP.out B1.out)
    have P1 := Lib.hid p1
    clear pa pb px py pl hB1
    have pa := blk_cell p1 0; have pb := blk_cell p1 1; have px := blk_frozen p1 0; have py := blk_frozen p1 1; have pl := blk_lt p1
    clear p1
    have HH1 := Lib.hid (Kd.R_drew (Kd.R_below HH.out B1.out))
    have HC1 := Lib.hid (Kd.R_reads' HH1.out).2.2
    go_wp2_with fail
    go_region_law (refine Kd.R_append_rows_step hitK (Rr := hitK.K w) (w0 := w) (W := w1.drew) (P + 1) (by rfl) _ _ 63 58 (.agg #[.int .i64 0, .int .i64 0, .string ⟨#[]⟩]) 32 rfl Tryz.underlying63 info_hit rfl (by decide) (by omega) (.slice A hs.length ca) hs hs A hs.length ca (fun k => P + 1 ≤ k) (fun _ => False) rfl rfl HH1.out HC1.out (fun _ _ h => h) (fun _ hk => hk.elim) (by intro k hk; have h1 := blk_lt P1.out; simp at hk h1; omega) (below_weaken'' (blk_lt HP.out) (below_drew B1.out)) (by have h1 := blk_lt P1.out; simp at h1 ⊢; omega) (by have := HL.out; omega) ?_; intro v6 w6 hV6 hB6 hG6 hat6; obtain ⟨A6, c6, rfl⟩ := Kd.R_slice hV6; have q6 := (hB6.block P (Nat.lt_succ_self P)).trans HP.out; have qb := blk_cell q6 1; have qy := blk_frozen q6 1)
    all_goals
      go_wp2_with fail
      go_ret
      rw [show (hs ++ hs).length = hs.length + hs.length by simp] at hV6
      exact ⟨rfl, (hB6.mono (Nat.le_succ P)).setCell (Nat.le_refl P) _, _, blk_set q6 1 _, Kd.R_far hV6 (p := ⟨P, 1, none⟩) (fun k hk e => by have hk' : P + 1 ≤ k := hk; have e' : k = P := e; omega) _⟩
end Go.Proofs.YtjcnjpljngabfaaGreatDoor
