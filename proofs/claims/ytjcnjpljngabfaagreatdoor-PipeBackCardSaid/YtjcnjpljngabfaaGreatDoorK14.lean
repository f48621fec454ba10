import Derived.Test.YtjcnjpljngabfaaGreatDoorK14a
namespace Go.Proofs.YtjcnjpljngabfaaGreatDoor
open Go.RowKit Go.Proofs.YtjcnjpljngabfaaGreatDoorW.PrintWords
set_option linter.unusedVariables false
/-! known -/
theorem kn_open {w : World} {base : Nat} {v : Value} {ps : List (Stg × SV)} (h : OutPs w base v ps) (hps : ps.map Prod.fst = knL) :
    ∃ g c xa xc ya yc, v = .slice (some ⟨g, 0, none⟩) 2 c ∧ stgK.C w (some ⟨g, 0, none⟩) 2 knL ∧ scK.C w (some ⟨g, 0, none⟩) 2 [(1, 0, ⟨xa, 1, xc⟩), (13, 1, ⟨ya, 1, yc⟩)] ∧ Kd.string.C w xa 1 [⟨#[98]⟩] ∧ Kd.string.C w ya 1 [countT] := by
  have hl : ps.length = 2 := by have := congrArg List.length hps; simpa [knL] using this
  obtain ⟨p, q, rfl⟩ : ∃ p q, ps = [p, q] := by
    cases ps with
    | nil => cases hl
    | cons p ps =>
      cases ps with
      | nil => cases hl
      | cons q ps =>
        cases ps with
        | nil => exact ⟨p, q, rfl⟩
        | cons r ps => simp at hl
  obtain ⟨p1, xa, xn, xc⟩ := p
  obtain ⟨q1, ya, yn, yc⟩ := q
  simp only [List.map_cons, List.map_nil, knL, List.cons.injEq, and_true] at hps
  obtain ⟨rfl, rfl⟩ := hps
  obtain ⟨x1, x2, x3⟩ := R_C2 (h.names _ (by simp : (((⟨1, 0, [⟨#[98]⟩]⟩ : Stg), (⟨xa, xn, xc⟩ : SV)) ∈ _)))
  obtain ⟨y1, y2, y3⟩ := R_C2 (h.names _ (by simp : (((⟨13, 1, [countT]⟩ : Stg), (⟨ya, yn, yc⟩ : SV)) ∈ _)))
  obtain rfl : xn = 1 := x2
  obtain rfl : yn = 1 := y2
  obtain ⟨g, cap, hv, _, _, _⟩ := Kd.R_form h.row (by simp)
  obtain ⟨A, c, hv2, hc2, hS⟩ := h.reads
  rw [hv] at hv2
  injection hv2 with e1 e2 e3
  subst e1 e3
  have hrow := h.row
  rw [hv] at hrow
  exact ⟨g, cap, xa, xc, ya, yc, hv, hS, (Kd.R_reads' hrow).2.2, x1, y1⟩
theorem rows_C' {w : World} {A : Option Addr} {p s q t : BA} {x y : SV} (h : svK.C w A 2 [x, y]) (hx : x.n = 2) (hy : y.n = 2) (cx : 2 ≤ x.c) (cy : 2 ≤ y.c) (h1 : Kd.string.C w x.a 2 [p, s]) (h2 : Kd.string.C w y.a 2 [q, t]) :
    Kd.C (Kd.slice 9 Kd.string) w A 2 [[p, s], [q, t]] := by
  obtain ⟨_, hm, hc⟩ := h
  obtain ⟨xa, xn, xc⟩ := x
  obtain ⟨ya, yn, yc⟩ := y
  simp only at hx hy cx cy h1 h2
  subst hx hy
  refine ⟨rfl, hm, fun hp => ?_⟩
  obtain ⟨ad, hA, hr⟩ := hc hp
  refine ⟨ad, hA, fun j r hj => ?_⟩
  rcases j with _ | _ | j
  · have hz : [p, s] = r := by simpa using hj
    subst hz
    obtain ⟨c, h3, h4, h5⟩ := hr 0 ⟨xa, 2, xc⟩ rfl
    have h4 : c = [.slice xa 2 xc] := h4
    exact ⟨c, h3, ⟨xa, xc, h4, cx, h1⟩, h5⟩
  · have hz : [q, t] = r := by simpa using hj
    subst hz
    obtain ⟨c, h3, h4, h5⟩ := hr 1 ⟨ya, 2, yc⟩ rfl
    have h4 : c = [.slice ya 2 yc] := h4
    exact ⟨c, h3, ⟨ya, yc, h4, cy, h2⟩, h5⟩
  · simp at hj
theorem rows_lit {w : World} {b : Nat} {A1 A2 : Option Addr} {p s q t : BA} (h : w.heap[b]? = some (.cells #[.slice A1 2 2, .slice A2 2 2] 41 (0, 0))) (h1 : Kd.string.C w A1 2 [p, s]) (h2 : Kd.string.C w A2 2 [q, t]) :
    Kd.C (Kd.slice 9 Kd.string) w (some ⟨b, 0, none⟩) 2 [[p, s], [q, t]] := by
  have hR : svK.R 41 w 0 (fun _ => True) (.slice (some ⟨b, 0, none⟩) 2 2) [⟨A1, 2, 2⟩, ⟨A2, 2, 2⟩] :=
    Kd.R_of_own (xs := [(⟨A1, 2, 2⟩ : SV), ⟨A2, 2, 2⟩]) ⟨rfl, .inr ⟨b, 2, _, rfl, Nat.zero_le _, h, Nat.le_refl _, by decide, rfl, rfl⟩⟩ (fun _ _ => trivial)
  exact rows_C' (Kd.R_reads' hR).2.2 rfl rfl (Nat.le_refl 2) (Nat.le_refl 2) h1 h2
theorem lit_C {w : World} {b : Nat} {p s : BA} (h : w.heap[b]? = some (.cells #[.string p, .string s] 9 (0, 0))) : Kd.string.C w (some ⟨b, 0, none⟩) 2 [p, s] :=
  (Kd.R_reads' (R_two (base := 0) (ok := fun _ => True) h (Nat.zero_le _) trivial)).2.2
theorem lits6 (w : World) (o0 o1 o2 o3 o4 o5 : Obj) {W : World} (h : (((((w.alloc o0).alloc o1).alloc o2).alloc o3).alloc o4).alloc o5 = W) :
    Below w.heap.size w W ∧ W.heap[w.heap.size]? = some o0 ∧ W.heap[w.heap.size + 1]? = some o1 ∧ W.heap[w.heap.size + 1 + 1]? = some o2 ∧ W.heap[w.heap.size + 1 + 1 + 1]? = some o3 ∧ W.heap[w.heap.size + 1 + 1 + 1 + 1]? = some o4 ∧ W.heap[w.heap.size + 1 + 1 + 1 + 1 + 1]? = some o5 := by
  subst h
  refine ⟨(by repeat (first | assumption | (with_reducible apply below_alloc) | (with_reducible apply pw_below_drewN) | (with_reducible apply below_drew) | (with_reducible apply Below.refl) | (with_reducible refine bw_set ?_ (by first | (dsimp only; omega) | omega | (simp; done) | (simp; omega)) _))), ?_, ?_, ?_, ?_, ?_, ?_⟩
  · exact blk_alloc (blk_alloc (blk_alloc (blk_alloc (blk_alloc (blk_new w _) _) _) _) _) _
  · exact blk_alloc (blk_alloc (blk_alloc (blk_alloc (blk_newn _ _ (by simp)) _) _) _) _
  · exact blk_alloc (blk_alloc (blk_alloc (blk_newn _ _ (by simp)) _) _) _
  · exact blk_alloc (blk_alloc (blk_newn _ _ (by simp)) _) _
  · exact blk_alloc (blk_newn _ _ (by simp)) _
  · exact blk_newn _ _ (by simp)
theorem kn_list : ByteArray.toList knT = [99, 111, 117, 110, 116, 32, 98, 121, 32, 98, 32, 124, 32, 115, 111, 114, 116, 32, 45, 99, 111, 117, 110, 116] := by decide +kernel
theorem kn_d3 : decT 3 = oneB 51 := by kernel_rfl
theorem kn_d2 : decT 2 = oneB 50 := by kernel_rfl
set_option maxRecDepth 100000 in
set_option maxHeartbeats 1000000 in
theorem known_calls (w : World) (T : Tab10 w) :
    Calls Tryz.prog 10 #[] w fun e w' => e = .returned (.bool true) ∧ Below w.heap.size w w' := by
  have HT := Lib.hid T
  clear T
  go_enter Tryz.func10, Tryz.ntmps10
  go_upto_region 2 with (go_at_call 12; go_must (refine (Parse_calls knT (by decide) _).mono ?_; rintro e w1 ⟨hP1, hB1⟩; rw [kn_parse] at hP1; obtain ⟨v1, ps, rfl, hps, hO⟩ := hP1; obtain ⟨g, c, xa, xc, ya, yc, rfl, hSt, hSc, hx, hy⟩ := kn_open hO hps))
  have k0 : World.cell? w1 ⟨g, 0, none⟩ = some (.int .i64 1) := (tri_cells (fun x : Int × Int × SV => Value.int .i64 x.1) (fun x => Value.int .i64 x.2.1) (fun x => x.2.2.val) hSc (sc_K w1) 0 (by simp)).1
  have k2 : World.cell? w1 ⟨g, 2, none⟩ = some (.slice xa 1 xc) := (tri_cells (fun x : Int × Int × SV => Value.int .i64 x.1) (fun x => Value.int .i64 x.2.1) (fun x => x.2.2.val) hSc (sc_K w1) 0 (by simp)).2.2
  have k4 : World.cell? w1 ⟨g, 4, none⟩ = some (.int .i64 1) := (tri_cells (fun x : Int × Int × SV => Value.int .i64 x.1) (fun x => Value.int .i64 x.2.1) (fun x => x.2.2.val) hSc (sc_K w1) 1 (by simp)).2.1
  have B1 := Lib.hid hB1
  have HST := Lib.hid hSt
  have HSC := Lib.hid hSc
  have HX := Lib.hid hx
  have HY := Lib.hid hy
  clear hB1 hSt hSc hx hy hO hps
  go_upto_region 4 with fail
  clear k0 k2 k4
  have HPR : Hid (Calls Tryz.prog 20 #[.slice (some ⟨g, 0, none⟩) 2 c] w1 fun e w' => e = .returned (.tuple #[.string knT, .int .i64 0]) ∧ Below w1.heap.size w1 w') := by
    have h := Print_calls knL (some ⟨g, 0, none⟩) c w1 HST.out (by decide +kernel) (HT.out.below B1.out)
    rw [kn_printE, kn_rightE] at h
    exact Lib.hid h
  go_upto_region 6 with (first | (go_at_call 20; go_must (refine HPR.out.mono ?_; rintro e w2 ⟨rfl, hB2⟩)) | (go_at_call 24; go_must (refine (New_calls (some ⟨g, 0, none⟩) c xa ya xc yc _ (Kd.C_below HST.out hB2) (Kd.C_below HSC.out hB2) (Kd.C_below HX.out hB2) (Kd.C_below HY.out hB2)).mono ?_; rintro e w3 ⟨g2, k2, x, y, wN, rfl, hSN, hBN, hBN3, hp3⟩)))
  clear HPR
  obtain ⟨xb, xn, xd⟩ := x
  obtain ⟨yb, yn, yd⟩ := y
  obtain rfl : xn = 1 := hSN.nx
  obtain rfl : yn = 1 := hSN.ny
  have BN := Lib.hid (bw_trans (bw_trans B1.out hB2) hBN)
  have BN1 := Lib.hid (bw_trans hB2 hBN)
  have SN := Lib.hid hSN
  obtain ⟨P, hP⟩ : ∃ P, wN.heap.size = P := ⟨_, rfl⟩
  rw [hP] at hBN3 hp3 ⊢
  have hH3 : hitK.R 58 w3 (P + 1) (fun k => P + 1 ≤ k) (.slice none 0 0) [] := Kd.R_nil _ _ _ _ _
  have HP := Lib.hid hP
  have P3 := Lib.hid hp3
  have H3 := Lib.hid hH3
  have BN3 := Lib.hid hBN3
  clear hB2 hSN hBN hBN3 hp3 hH3 hP
  go_upto_region 9 with (go_at_call 27; go_must (refine (Add_calls P (.slice (some ⟨g2, 0, none⟩) 2 k2) (.slice none 0 0) [] 1 0 ⟨#[98, 61, 121]⟩ w3 P3.out H3.out (by simp)).mono ?_; rintro e w4 ⟨rfl, hB4, v4, hp4, hH4⟩))
  have P4 := Lib.hid hp4
  have H4 := Lib.hid hH4
  have B4 := Lib.hid (BN3.out.trans hB4)
  clear hp4 hH4 hB4 P3 H3
  go_upto_region 10 with (go_at_call 27; go_must (refine (Add_calls P (.slice (some ⟨g2, 0, none⟩) 2 k2) v4 ([] ++ [(1, 0, ⟨#[98, 61, 121]⟩)]) 2 0 ⟨#[98, 61, 120]⟩ w4 P4.out H4.out (by simp)).mono ?_; rintro e w5 ⟨rfl, hB5, v5, hp5, hH5⟩))
  have P5 := Lib.hid hp5
  have H5 := Lib.hid hH5
  have B5 := Lib.hid (B4.out.trans hB5)
  clear hp5 hH5 hB5 P4 H4
  go_upto_region 11 with (go_at_call 29; go_must (refine (Merge_calls P g2 k2 ⟨xb, 1, xd⟩ ⟨yb, 1, yd⟩ v5 ([] ++ [(1, 0, ⟨#[98, 61, 121]⟩)] ++ [(2, 0, ⟨#[98, 61, 120]⟩)]) w5 P5.out (SN.out.below (by rw [HP.out]; exact B5.out)) H5.out (by simp)).mono ?_; rintro e w6 ⟨rfl, hB6, v6, hp6, hH6⟩))
  have P6 := Lib.hid hp6
  have H6 := Lib.hid hH6
  have B6 := Lib.hid (B5.out.trans hB6)
  clear hp6 hH6 hB6 P5 H5
  go_upto_region 12 with (go_at_call 27; go_must (refine (Add_calls P (.slice (some ⟨g2, 0, none⟩) 2 k2) v6 _ 3 0 ⟨#[98, 61, 120]⟩ w6 P6.out H6.out (by simp)).mono ?_; rintro e w7 ⟨rfl, hB7, v7, hp7, hH7⟩))
  obtain ⟨A7, c7, rfl⟩ := Kd.R_slice hH7
  have P7 := Lib.hid hp7
  have H7 := Lib.hid (Kd.R_reads' hH7).2.2
  have B7 := Lib.hid (B6.out.trans hB7)
  clear hp7 hH7 hB7 P6 H6
  have HTB := Lib.hid (Table_calls P g2 k2 c7 xb yb xd yd A7 _ [121, 120, 121, 120, 120] 3 2 w7 P7.out (SN.out.below (by rw [HP.out]; exact B7.out)) H7.out rfl (by decide) (by decide) (by decide) (by decide) (by decide) (by decide) (by decide) (by decide) (fun W => by rw [kn_d3, kn_d2]; exact byv_digits W))
  rw [kn_d3, kn_d2] at HTB
  go_upto_region 13 with (go_at_call 34; go_must (refine HTB.out.mono ?_; rintro e w8 ⟨Ah, ch, Ar, cr, rfl, hHd, hch, hRw, hcr, hB8⟩))
  have B8 := Lib.hid (B7.out.trans (hB8.mono (by have h1 := B7.out.size; have h2 := HP.out; omega)))
  have HHd := Lib.hid hHd
  have HRw : Hid (Kd.C (Kd.slice 9 Kd.string) w8 Ar 2 [[oneB 120, oneB 51], [oneB 121, oneB 50]]) := Lib.hid hRw
  have HCH := Lib.hid hch
  clear hB8 hHd hRw hch hcr P7 H7 HTB
  go_upto_region 14 with fail
  change Code.wp _ _ _ _ ((((((w8.alloc (.cells #[.slice Ah 2 ch, .slice Ar 2 cr] 77 (0, 0))).alloc (.cells #[.string ⟨#[98]⟩, .string countT] 9 (0, 0))).alloc (.cells #[.string (oneB 120), .string (oneB 51)] 9 (0, 0))).alloc (.cells #[.string (oneB 121), .string (oneB 50)] 9 (0, 0))).alloc (.cells #[.slice (some ⟨w8.heap.size + 1 + 1, 0, none⟩) 2 2, .slice (some ⟨w8.heap.size + 1 + 1 + 1, 0, none⟩) 2 2] 41 (0, 0))).alloc (.cells #[.slice (some ⟨w8.heap.size + 1, 0, none⟩) 2 2, .slice (some ⟨w8.heap.size + 1 + 1 + 1 + 1, 0, none⟩) 2 2] 77 (0, 0)))
  generalize hW : ((((((w8.alloc (.cells #[.slice Ah 2 ch, .slice Ar 2 cr] 77 (0, 0))).alloc (.cells #[.string ⟨#[98]⟩, .string countT] 9 (0, 0))).alloc (.cells #[.string (oneB 120), .string (oneB 51)] 9 (0, 0))).alloc (.cells #[.string (oneB 121), .string (oneB 50)] 9 (0, 0))).alloc (.cells #[.slice (some ⟨w8.heap.size + 1 + 1, 0, none⟩) 2 2, .slice (some ⟨w8.heap.size + 1 + 1 + 1, 0, none⟩) 2 2] 41 (0, 0))).alloc (.cells #[.slice (some ⟨w8.heap.size + 1, 0, none⟩) 2 2, .slice (some ⟨w8.heap.size + 1 + 1 + 1 + 1, 0, none⟩) 2 2] 77 (0, 0))) = W10
  obtain ⟨b10, f0, f1, f2, f3, f4, f5⟩ := lits6 w8 _ _ _ _ _ _ hW
  have B10 := Lib.hid (B8.out.trans (b10.mono (by have h1 := B8.out.size; have h2 := HP.out; omega)))
  have HA := Lib.hid (Kd.C_below HHd.out b10)
  have HB := Lib.hid (Kd.C_below HRw.out b10)
  have HC : Hid (Kd.string.C W10 (some ⟨w8.heap.size + 1, 0, none⟩) 2 [⟨#[98]⟩, countT]) := Lib.hid (lit_C f1)
  have HD : Hid (Kd.C (Kd.slice 9 Kd.string) W10 (some ⟨w8.heap.size + 1 + 1 + 1 + 1, 0, none⟩) 2 [[oneB 120, oneB 51], [oneB 121, oneB 50]]) := Lib.hid (rows_lit f4 (lit_C f2) (lit_C f3))
  have F0 := Lib.hid f0
  have F5 := Lib.hid f5
  clear b10 f0 f1 f2 f3 f4 f5 hW HHd HRw
  go_upto_region 15 with (go_at_call 12; go_must (refine (Parse_calls cuT (by decide) _).mono ?_; rintro e w11 ⟨hP1, hB11⟩; rw [cu_parse] at hP1; obtain rfl := hP1))
  have f0 := blk_below F0.out hB11
  have f5 := blk_below F5.out hB11
  have pa := blk_cell f0 0; have pb := blk_cell f0 1; have px := blk_frozen f0 0; have py := blk_frozen f0 1; have pl := blk_lt f0
  have qa := blk_cell f5 0; have qb := blk_cell f5 1; have qx := blk_frozen f5 0; have qy := blk_frozen f5 1; have ql := blk_lt f5
  have B11 := Lib.hid (B10.out.trans (hB11.mono (by have h1 := B10.out.size; have h2 := HP.out; omega)))
  have HB11 := Lib.hid hB11
  clear f0 f5 hB11
  have hkn := kn_list
  have HRI : Hid (∀ W, Below w11.heap.size w11 W → Calls Tryz.prog 21 #[.slice (some ⟨g, 0, none⟩) 2 c] W fun e w' => e = .returned (.int .i64 0) ∧ Below W.heap.size W w') := Lib.hid (fun W hB => by
    have hN : Below w1.heap.size w1 w11 := BN1.out.trans (B11.out.mono (by have h1 := BN1.out.size; have h2 := HP.out; omega))
    have h := Right_calls knL (some ⟨g, 0, none⟩) c W (Kd.C_below HST.out (bw_trans hN hB)) (by decide +kernel)
    rw [kn_rightE] at h
    exact h)
  go_wp2_with (first | (go_at_call 21; go_must (refine (HRI.out _ hB12).mono ?_; rintro e w13 ⟨rfl, hB13⟩)) | (go_at_call 35; go_must (refine (SameTables_true Ah _ Ar _ ch 2 cr 2 [⟨#[98]⟩, countT] [[oneB 120, oneB 51], [oneB 121, oneB 50]] _ (Kd.C_below HA.out HB11.out) (Kd.C_below HC.out HB11.out) (Kd.C_below HB.out HB11.out) (Kd.C_below HD.out HB11.out)).mono ?_; rintro e w12 ⟨rfl, hB12⟩)))
  go_ret
  exact ⟨rfl, (BN.out.trans (B11.out.mono (by have h1 := BN.out.size; have h2 := HP.out; omega))).trans ((hB12.trans (hB13.mono hB12.size)).mono (by have h1 := BN.out.size; have h2 := HP.out; have h3 := B11.out.size; omega))⟩
end Go.Proofs.YtjcnjpljngabfaaGreatDoor
