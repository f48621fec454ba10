import Derived.Test.YtjcnjpljngabfaaGreatDoorK0
namespace Go.Proofs.YtjcnjpljngabfaaGreatDoor
open Go.RowKit Go.Proofs.YtjcnjpljngabfaaGreatDoorW.PrintWords
set_option linter.unusedVariables false
/-! does, Table at the example -/
set_option maxRecDepth 100000 in
set_option maxHeartbeats 2000000 in
theorem does_sort (A : Option Addr) (c : Nat) (w : World) (hC : Kd.string.C w A 1 [countT]) :
    Calls Tryz.prog 67 #[.agg #[.int .i64 13, .int .i64 1, .slice A 1 c]] w fun e w' => e = .returned (.iface 165 (.agg #[.string countT, .bool true])) ∧ Below w.heap.size w w' := by
  obtain ⟨g, o, rfl, hc⟩ := strs_plain hC (by omega)
  have z0 := blk_new w (.cells #[.int .i64 13, .int .i64 1, .slice (some ⟨g, o, none⟩) 1 c] 43 (0, 0))
  have za := blk_cell z0 0; have zb := blk_cell z0 1; have zc := blk_cell z0 2; have zx := blk_frozen z0 0; have zy := blk_frozen z0 1; have zz := blk_frozen z0 2; have zl := blk_lt z0
  have k0 : World.cell? (w.alloc (.cells #[.int .i64 13, .int .i64 1, .slice (some ⟨g, o, none⟩) 1 c] 43 (0, 0))) ⟨g, o, none⟩ = some (.string countT) := pw_cell_below (below_alloc (Below.refl _ _) _) (hc 0 (by simp))
  clear hc hC
  go_enter Tryz.func67, Tryz.ntmps67
  go_wp2_with fail
  go_region
  all_goals
    go_wp2_with fail
    go_ret
    exact ⟨rfl, (by repeat (first | assumption | (with_reducible apply below_alloc) | (with_reducible apply pw_below_drewN) | (with_reducible apply below_drew) | (with_reducible apply Below.refl) | (with_reducible refine bw_set ?_ (by first | (dsimp only; omega) | omega | (simp; done) | (simp; omega)) _)))⟩
set_option maxRecDepth 100000 in
set_option maxHeartbeats 2000000 in
theorem does_count (A : Option Addr) (c : Nat) (b : BA) (w : World) (hC : Kd.string.C w A 1 [b]) :
    Calls Tryz.prog 67 #[.agg #[.int .i64 1, .int .i64 0, .slice A 1 c]] w fun e w' => e = .returned (.iface 168 (.agg #[.string b, .int .i64 0])) ∧ Below w.heap.size w w' := by
  obtain ⟨g, o, rfl, hc⟩ := strs_plain hC (by omega)
  have z0 := blk_new w (.cells #[.int .i64 1, .int .i64 0, .slice (some ⟨g, o, none⟩) 1 c] 43 (0, 0))
  have za := blk_cell z0 0; have zb := blk_cell z0 1; have zc := blk_cell z0 2; have zx := blk_frozen z0 0; have zy := blk_frozen z0 1; have zz := blk_frozen z0 2; have zl := blk_lt z0
  have k0 : World.cell? (w.alloc (.cells #[.int .i64 1, .int .i64 0, .slice (some ⟨g, o, none⟩) 1 c] 43 (0, 0))) ⟨g, o, none⟩ = some (.string b) := pw_cell_below (below_alloc (Below.refl _ _) _) (hc 0 (by simp))
  clear hc hC
  go_enter Tryz.func67, Tryz.ntmps67
  go_wp2_with fail
  go_ret
  exact ⟨rfl, (by repeat (first | assumption | (with_reducible apply below_alloc) | (with_reducible apply pw_below_drewN) | (with_reducible apply below_drew) | (with_reducible apply Below.refl) | (with_reducible refine bw_set ?_ (by first | (dsimp only; omega) | omega | (simp; done) | (simp; omega)) _)))⟩
/-! rows of three cells -/
theorem tri_cells {α : Type} {R : α → List Value → Prop} {w : World} {g n : Nat} {xs : List α} (e1 e2 e3 : α → Value) (h : ReadsRow R 3 w (some ⟨g, 0, none⟩) n xs) (hR : ∀ x c, R x c → c = [e1 x, e2 x, e3 x]) (i : Nat) (hi : i < xs.length) :
    w.cell? ⟨g, i * 3, none⟩ = some (e1 xs[i]) ∧ w.cell? ⟨g, i * 3 + 1, none⟩ = some (e2 xs[i]) ∧ w.cell? ⟨g, i * 3 + 2, none⟩ = some (e3 xs[i]) := by
  have hn : 0 < n := by have := h.1; omega
  obtain ⟨ad, he, hc⟩ := h.2.2 hn
  injection he with he; subst he
  obtain ⟨c, hl, hr, hcell⟩ := hc i _ (List.getElem?_eq_getElem hi)
  have hcc := hR _ _ hr; subst hcc
  have a : ∀ m, (⟨g, 0, none⟩ : Addr).add m = ⟨g, m, none⟩ := fun m => by unfold Addr.add; by_cases hm : m = 0 <;> simp [hm]
  have h0 := hcell 0 _ rfl
  have h1 := hcell 1 _ rfl
  have h2 := hcell 2 _ rfl
  rw [a] at h0 h1 h2
  exact ⟨h0, h1, h2⟩
theorem hit_K (w : World) (x : Int × Int × BA) (c : List Value) (h : hitK.K w x c) : c = [.int .i64 x.1, .int .i64 x.2.1, .string x.2.2] := by
  obtain ⟨c0, c1, rfl, h0, c2, c3, rfl, h2, h3⟩ := h
  have h0 : c0 = [.int .i64 x.1] := h0
  have h2 : c2 = [.int .i64 x.2.1] := h2
  have h3 : c3 = [.string x.2.2] := h3
  rw [h0, h2, h3]; rfl
theorem sc_K (w : World) (x : Int × Int × SV) (c : List Value) (h : scK.K w x c) : c = [.int .i64 x.1, .int .i64 x.2.1, x.2.2.val] := by
  obtain ⟨c0, c1, rfl, h0, c2, c3, rfl, h2, h3⟩ := h
  have h0 : c0 = [.int .i64 x.1] := h0
  have h2 : c2 = [.int .i64 x.2.1] := h2
  have h3 : c3 = [x.2.2.val] := h3
  rw [h0, h2, h3]; rfl
theorem hits_at {w : World} {g n : Nat} {hs : List (Int × Int × BA)} {cs : List UInt8} (h : hitK.C w (some ⟨g, 0, none⟩) n hs) (hcs : hs.map (fun x => x.2.2) = cs.map lineB) : HitsAt w g cs := fun j hj => by
  have hl : hs.length = cs.length := by simpa using congrArg List.length hcs
  obtain ⟨h0, h1, h2⟩ := tri_cells (fun x : Int × Int × BA => Value.int .i64 x.1) (fun x => Value.int .i64 x.2.1) (fun x => Value.string x.2.2) h (hit_K w) j (by omega)
  refine ⟨_, _, h0, h1, ?_⟩
  rw [h2]
  have := congrArg (fun l => l[j]?) hcs
  simp only [List.getElem?_map] at this
  rw [List.getElem?_eq_getElem (by omega), List.getElem?_eq_getElem hj] at this
  simp only [Option.map_some, Option.some.injEq] at this
  rw [this]
/-- the two stages, as they lie -/
structure StsAt (w : World) (g : Nat) (x y : SV) : Prop where
  a0 : w.cell? ⟨g, 0, none⟩ = some (.int .i64 1)
  a1 : w.cell? ⟨g, 1, none⟩ = some (.int .i64 0)
  a2 : w.cell? ⟨g, 2, none⟩ = some x.val
  b0 : w.cell? ⟨g, 3, none⟩ = some (.int .i64 13)
  b1 : w.cell? ⟨g, 4, none⟩ = some (.int .i64 1)
  b2 : w.cell? ⟨g, 5, none⟩ = some y.val
  nx : x.n = 1
  ny : y.n = 1
  cx : Kd.string.C w x.a 1 [⟨#[98]⟩]
  cy : Kd.string.C w y.a 1 [countT]
theorem StsAt.below {w w1 : World} {g : Nat} {x y : SV} (h : StsAt w g x y) (hb : Below w.heap.size w w1) : StsAt w1 g x y :=
  ⟨pw_cell_below hb h.a0, pw_cell_below hb h.a1, pw_cell_below hb h.a2, pw_cell_below hb h.b0, pw_cell_below hb h.b1, pw_cell_below hb h.b2, h.nx, h.ny, Kd.C_below h.cx hb, Kd.C_below h.cy hb⟩
theorem StsAt.of_C {w : World} {g : Nat} {x y : SV} (h : scK.C w (some ⟨g, 0, none⟩) 2 [(1, 0, x), (13, 1, y)]) (nx : x.n = 1) (ny : y.n = 1) (cx : Kd.string.C w x.a 1 [⟨#[98]⟩]) (cy : Kd.string.C w y.a 1 [countT]) : StsAt w g x y := by
  obtain ⟨h0, h1, h2⟩ := tri_cells (fun x : Int × Int × SV => Value.int .i64 x.1) (fun x => Value.int .i64 x.2.1) (fun x => x.2.2.val) h (sc_K w) 0 (by simp)
  obtain ⟨h3, h4, h5⟩ := tri_cells (fun x : Int × Int × SV => Value.int .i64 x.1) (fun x => Value.int .i64 x.2.1) (fun x => x.2.2.val) h (sc_K w) 1 (by simp)
  exact ⟨h0, h1, h2, h3, h4, h5, nx, ny, cx, cy⟩
def table_post (rows : List (List BA)) (w : World) (e : Ending) (w' : World) : Prop :=
  ∃ Ah ch Ar cr, e = .returned (.agg #[.slice Ah 2 ch, .slice Ar rows.length cr]) ∧ Kd.string.C w' Ah 2 [⟨#[98]⟩, countT] ∧ 2 ≤ ch ∧ Kd.C (Kd.slice 9 Kd.string) w' Ar rows.length rows ∧ rows.length ≤ cr ∧ Below w.heap.size w w'
set_option maxRecDepth 100000 in
set_option maxHeartbeats 4000000 in
theorem Table_calls (bp g cst ch : Nat) (xa ya : Option Addr) (xc yc : Nat) (Ah : Option Addr) (hs : List (Int × Int × BA)) (cs : List UInt8) (n1 n2 : Nat) (w : World) (hp : w.heap[bp]? = some (.cells #[.slice (some ⟨g, 0, none⟩) 2 cst, .slice Ah hs.length ch] 114 (0, 0))) (hst : StsAt w g ⟨xa, 1, xc⟩ ⟨ya, 1, yc⟩) (hH : hitK.C w Ah hs.length hs) (hcs : hs.map (fun x => x.2.2) = cs.map lineB) (hxy : ∀ c ∈ cs, c = 120 ∨ c = 121) (hlen : cs.length ≤ 1000) (hpos : 0 < cs.length) (hvs : valsC cs = [121, 120]) (hn1 : cs.count 120 = n1) (hn2 : cs.count 121 = n2) (h1 : n1 < 100) (h2 : n2 < 100)
    (hby : ∀ W, Calls Tryz.prog 279 #[.string (decT n1), .string (decT n2)] W fun e w' => e = .returned (.int .i64 1) ∧ Below W.heap.size W w') :
    Calls Tryz.prog 34 #[.pointer (some ⟨bp, 0, none⟩)] w fun e w' => table_post [[oneB 120, decT n1], [oneB 121, decT n2]] w e w' := by
  have HP := Lib.hid hp
  have HS := Lib.hid hst
  have HH := Lib.hid hH
  have HCS := Lib.hid hcs
  have HXY := Lib.hid hxy
  have HL := Lib.hid hlen
  have HV := Lib.hid hvs
  have HN1 := Lib.hid hn1
  have HN2 := Lib.hid hn2
  have H1 := Lib.hid h1
  have H2 := Lib.hid h2
  have HBY := Lib.hid hby
  have hl : hs.length = cs.length := by simpa using congrArg List.length hcs
  have HLN := Lib.hid hl
  have HPS := Lib.hid hpos
  have p1 := blk_alloc hp (.cells #[.slice none 0 0, .slice none 0 0] 77 (0, 0))
  have pa := blk_cell p1 0; have pb := blk_cell p1 1; have px := blk_frozen p1 0; have py := blk_frozen p1 1; have pl := blk_lt p1
  have hw := below_alloc (Below.refl w.heap.size w) (.cells #[.slice none 0 0, .slice none 0 0] 77 (0, 0))
  have HW := Lib.hid hw
  clear hp hst hH hcs hxy hlen hvs hn1 hn2 h1 h2 hby hl hw hpos
  go_enter Tryz.func34, Tryz.ntmps34
  go_upto_region 2 with (go_at_call 66; go_must (refine (cloneH_calls Ah ch hs _ (Kd.C_below HH.out HW.out) (by have := HLN.out; have := HPS.out; omega) (by have := HLN.out; have := HL.out; omega)).mono ?_; rintro e w3 ⟨v3, rfl, hV3, hB3⟩; obtain ⟨g3, k3, rfl, hg3, hl3, _⟩ := Kd.R_form hV3 (by have := HLN.out; have := HPS.out; omega)))
  have r4 := blk_alloc (blk_below (blk_new w (.cells #[.slice none 0 0, .slice none 0 0] 77 (0, 0))) hB3) (.cells #[.slice (some ⟨g3, 0, none⟩) hs.length k3, .bool false, .slice none 0 0, .slice none 0 0] 119 (0, 0))
  have hB4 : Below w.heap.size w (w3.alloc (.cells #[.slice (some ⟨g3, 0, none⟩) hs.length k3, .bool false, .slice none 0 0, .slice none 0 0] 119 (0, 0))) := below_alloc (bw_trans HW.out hB3) _
  have f4 := blk_new w3 (.cells #[.slice (some ⟨g3, 0, none⟩) hs.length k3, .bool false, .slice none 0 0, .slice none 0 0] 119 (0, 0))
  have hV4 := Kd.R_below hV3 (below_alloc (Below.refl _ _) (.cells #[.slice (some ⟨g3, 0, none⟩) hs.length k3, .bool false, .slice none 0 0, .slice none 0 0] 119 (0, 0)))
  have hb4 : w3.heap.size < (w3.alloc (.cells #[.slice (some ⟨g3, 0, none⟩) hs.length k3, .bool false, .slice none 0 0, .slice none 0 0] 119 (0, 0))).heap.size := blk_lt f4
  have hw3 : w.heap.size < w3.heap.size := by have h1 := hB3.size; simp only [World.size_alloc] at h1; omega
  obtain ⟨bf, hbf⟩ : ∃ bf, w3.heap.size = bf := ⟨_, rfl⟩
  rw [hbf] at hb4 f4 hw3 ⊢
  clear pa pb px py pl p1
  generalize w3.alloc (.cells #[.slice (some ⟨g3, 0, none⟩) hs.length k3, .bool false, .slice none 0 0, .slice none 0 0] 119 (0, 0)) = W4 at hB4 f4 hV4 hb4 r4 ⊢
  have F4 := Lib.hid f4
  have R4 := Lib.hid r4
  have B4 := Lib.hid hB4
  have V4 := Lib.hid (Kd.R_reads' hV4).2.2
  have HBF := Lib.hid hw3
  clear hV3 hV4 hg3 hl3 hB3 hbf f4 hw3 r4
  have p4 := blk_below HP.out B4.out
  have pa := blk_cell p4 0; have pb := blk_cell p4 1; have px := blk_frozen p4 0; have py := blk_frozen p4 1; have pl := blk_lt p4
  have S4 := HS.out.below B4.out
  (have ka := S4.a0; have kb := S4.a1; have kc : World.cell? W4 ⟨g, 2, none⟩ = some (.slice xa 1 xc) := S4.a2)
  have t5 := blk_new W4 (.cells #[.int .i64 1, .int .i64 0, .slice xa 1 xc] 43 (0, 0))
  have ta := blk_cell t5 0; have tb := blk_cell t5 1; have tc := blk_cell t5 2; have tx := blk_frozen t5 0; have ty := blk_frozen t5 1; have tz := blk_frozen t5 2; have tl := blk_lt t5
  have CX := Lib.hid (Kd.C_below S4.cx (below_alloc (Below.refl _ _) (.cells #[.int .i64 1, .int .i64 0, .slice xa 1 xc] 43 (0, 0))))
  have S4' := Lib.hid S4
  clear S4 hB4 p4 t5
  go_wp2_with fail
  refine wp_loop_rounds 3 ?_
  rw [rounds_succ]
  go_wp2_with (first | (go_at_call 67; go_must (refine (does_count xa xc _ _ CX.out).mono ?_; rintro e w6 ⟨rfl, hB6⟩)) | (go_at_call 302; go_must (refine (counted_calls bf g3 k3 cs _ _ _ _ HXY.out HL.out (by have h := blk_below (blk_alloc F4.out _) hB6; rw [HLN.out] at h; exact h) (hits_at (Kd.C_below (Kd.C_alloc V4.out _) hB6) HCS.out) HV.out n1 n2 HN1.out HN2.out H1.out H2.out).mono ?_; rintro e w7 ⟨rfl, hG7, v7, vr7, h7, hV7, hR7⟩)))
  have B7 := Lib.hid (bw_trans_new (bw_trans (bw_trans B4.out (below_alloc (Below.refl _ _) (.cells #[.int .i64 1, .int .i64 0, .slice xa 1 xc] 43 (0, 0)))) hB6) hG7 (Nat.le_of_lt HBF.out))
  have R7 := Lib.hid (blk_grown (blk_below (blk_alloc R4.out (.cells #[.int .i64 1, .int .i64 0, .slice xa 1 xc] 43 (0, 0))) hB6) hG7 (by intro e; injection e with e; have := HBF.out; omega))
  have S7 := HS.out.below B7.out
  obtain ⟨Ah7, ch7, rfl⟩ := Kd.R_slice hV7
  obtain ⟨Ar7, cr7, rfl⟩ := Kd.R_slice hR7
  have h7 : w7.heap[bf]? = some (.cells #[.slice (some ⟨g3, 0, none⟩) cs.length k3, .bool true, .slice Ah7 2 ch7, .slice Ar7 2 cr7] 119 (0, 0)) := h7
  have F7 := Lib.hid h7
  have V7 := Lib.hid hV7
  have HR7 := Lib.hid hR7
  have hz7 : w.heap.size ≤ w6.heap.size := Nat.le_trans B4.out.size (Nat.le_trans (by simp) hB6.size)
  have Z7 := Lib.hid hz7
  have hbf8 : bf < w6.heap.size := by have h1 := hb4; have h2 := hB6.size; simp only [World.size_alloc] at h2; omega
  have HBF6 := Lib.hid hbf8
  clear h7 hV7 hR7 hz7 hbf8 pa pb px py pl ka kb kc ta tb tc tx ty tz tl CX hG7 hB6
  (have ka := S7.b0; have kb := S7.b1; have kc : World.cell? w7 ⟨g, 5, none⟩ = some (.slice ya 1 yc) := S7.b2)
  have t5 := blk_new w7 (.cells #[.int .i64 13, .int .i64 1, .slice ya 1 yc] 43 (0, 0))
  have ta := blk_cell t5 0; have tb := blk_cell t5 1; have tc := blk_cell t5 2; have tx := blk_frozen t5 0; have ty := blk_frozen t5 1; have tz := blk_frozen t5 2; have tl := blk_lt t5
  have CY := Lib.hid (Kd.C_below S7.cy (below_alloc (Below.refl _ _) (.cells #[.int .i64 13, .int .i64 1, .slice ya 1 yc] 43 (0, 0))))
  have S7' := Lib.hid S7
  clear S7 t5
  rw [rounds_succ]
  obtain ⟨x, y, hsv, hx, hy, hr1, hr2⟩ := rows_split HR7.out
  have HX := Lib.hid hx
  have HY := Lib.hid hy
  have HS7 := Lib.hid hsv
  have HX1 := Lib.hid hr1
  have HY1 := Lib.hid hr2
  have hc1 := R_C2 hr1
  have hc2 := R_C2 hr2
  have HC1 := Lib.hid hc1.1
  have HC2 := Lib.hid hc2.1
  have HCS7 := Lib.hid (Kd.R_reads' hsv).2.2
  have HCH := Lib.hid (Kd.R_reads' V7.out).2.2
  have HCC := Lib.hid (Kd.R_reads' V7.out).2.1
  clear hx hy hsv hr1 hr2 hc1 hc2
  go_wp2_with (first | (go_at_call 67; go_must (refine (does_sort ya yc _ CY.out).mono ?_; rintro e w8 ⟨rfl, hB8⟩)) | (go_at_call 271; go_must (refine (sorted_calls bf cr7 ch7 Ar7 Ah7 (.slice (some ⟨g3, 0, none⟩) cs.length k3) x y _ _ _ _ 1 (.inr rfl) HBY.out w8 (blk_below (blk_alloc F7.out _) hB8) (Kd.C_below (Kd.C_alloc HCH.out _) hB8) (Kd.C_below (Kd.C_alloc HCS7.out _) hB8) HX.out HY.out (Kd.C_below (Kd.C_alloc HC1.out _) hB8) (Kd.C_below (Kd.C_alloc HC2.out _) hB8)).mono ?_; rintro e w9 ⟨rfl, hG9, v9, h9, hV9⟩)))
  obtain ⟨A9, c9, rfl⟩ := Kd.R_slice hV9
  have r9 := blk_grown (blk_below (blk_alloc R7.out (.cells #[.int .i64 13, .int .i64 1, .slice ya 1 yc] 43 (0, 0))) hB8) hG9 (by intro e; injection e with e; have := HBF.out; omega)
  clear ka kb kc ta tb tc tx ty tz tl CY
  have fa := blk_cell h9 0; have fb := blk_cell h9 1; have fc := blk_cell h9 2; have fd := blk_cell h9 3; have fl := blk_lt h9
  have ra := blk_cell r9 0; have rb := blk_cell r9 1; have rx := blk_frozen r9 0; have ry := blk_frozen r9 1; have rl := blk_lt r9
  have RR9 := Lib.hid r9
  have HG9 := Lib.hid hG9
  have HB8 := Lib.hid hB8
  have HV9 := Lib.hid hV9
  clear r9 hG9 hB8 hV9 h9
  rw [rounds_succ]
  go_wp2_with fail
  (try simp only [Exit.inBlock, Exit.then])
  refine bodyPost_ret (results_c1 rfl _ _ w.heap.size 77 _ (0, 0) _ rfl (by repeat (first | (with_reducible exact RR9.out) | (with_reducible apply blk_alloc) | (with_reducible apply blk_drewN) | (with_reducible apply blk_drew) | (with_reducible apply blk_set) | (with_reducible refine blk_far ?_ (by first | (dsimp only; omega) | omega | (simp; done) | (simp; omega)) _))) Tryz.underlying77 rfl (by kernel_rfl)) rfl ?_
  have hne : ∀ k, w6.heap.size ≤ k → k ≠ w.heap.size := fun k hk e => by have h1 := HBF.out; have h2 := HBF6.out; omega
  have hne8 : ∀ k, w8.heap.size ≤ k → k ≠ w.heap.size := fun k hk e => by have h1 := blk_lt R7.out; have h2 := HB8.out.size; simp only [World.size_alloc] at h2; omega
  have mv : ∀ {α : Type} {d : Kd α} {e : Nat} {v : Value} {xs : List α}, d.R e w7 w6.heap.size (fun k => w6.heap.size ≤ k) v xs → d.R e ((w9.setCell { block := w.heap.size, off := 0 } (Value.slice Ah7 2 ch7)).setCell { block := w.heap.size, off := 1 } (Value.slice A9 2 c9)) w6.heap.size (fun k => w6.heap.size ≤ k) v xs :=
    fun h => Kd.R_far (Kd.R_far (Kd.R_grown (Kd.R_below (Kd.R_alloc h (.cells #[.int .i64 13, .int .i64 1, .slice ya 1 yc] 43 (0, 0))) HB8.out) HG9.out (by intro k hk e; injection e with e; have h2 := HBF6.out; omega)) hne _) hne _
  have mv9 := Kd.R_far (Kd.R_far HV9.out (p := { block := w.heap.size, off := 0 }) hne8 (Value.slice Ah7 2 ch7)) (p := { block := w.heap.size, off := 1 }) hne8 (Value.slice A9 2 c9)
  have hB9 : Below w.heap.size w w9 := bw_trans_new (bw_trans (bw_trans B7.out (below_alloc (Below.refl _ _) (.cells #[.int .i64 13, .int .i64 1, .slice ya 1 yc] 43 (0, 0)))) HB8.out) HG9.out (Nat.le_of_lt HBF.out)
  exact ⟨Ah7, ch7, A9, c9, rfl, (Kd.R_reads' (mv V7.out)).2.2, HCC.out, rows_C (Kd.R_reads' mv9).2.2 (mv HX1.out) (mv HY1.out), (Kd.R_reads' HV9.out).2.1, bw_set (bw_set hB9 (Nat.le_refl _) _) (Nat.le_refl _) _⟩
end Go.Proofs.YtjcnjpljngabfaaGreatDoor
