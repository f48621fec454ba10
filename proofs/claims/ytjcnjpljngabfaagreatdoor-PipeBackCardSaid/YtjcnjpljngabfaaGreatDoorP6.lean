import Derived.Test.YtjcnjpljngabfaaGreatDoorP5
namespace Go.Proofs.YtjcnjpljngabfaaGreatDoor
open Go.RowKit Go.Proofs.YtjcnjpljngabfaaGreatDoorW.PrintWords
set_option linter.unusedVariables false
set_option maxRecDepth 100000 in
set_option maxHeartbeats 4000000 in
theorem Parse_calls (s : BA) (hs : s.size ≤ 140737488351232) (w : World) :
    Calls Tryz.prog 12 #[.string s] w fun e w' => ParseP w w' (parseS spanOf s) e ∧ Below w.heap.size w w' := by
  go_enter Tryz.func12, Tryz.ntmps12
  let T0 := bodyPost Tryz.prog Tryz.f12 (fun _ _ => True)
  generalize hfn : bodyPost Tryz.prog Tryz.f12 (fun e w' => ParseP w w' (parseS spanOf s) e ∧ Below w.heap.size w w') = Q0
  obtain ⟨F, hF⟩ : ∃ F, fin s 0 = F := ⟨_, rfl⟩
  obtain ⟨ws, hws⟩ : ∃ ws, words s 0 = ws := ⟨_, rfl⟩
  have hR : RAt (w.alloc (.cells #[.string s, .int .i64 0] 101 (0, 0))) w.heap.size s ws F := ⟨0, Nat.zero_le _, blk_new w _, hws, hF⟩
  have HP : Hid (parseS spanOf s = if ws = [] ∧ F = s.size then .ok [] else parseF spanOf (decide (F < s.size)) F (s.size + 1) [] none ws) := Lib.hid (by unfold parseS; rw [hF, hws])
  clear hF
  have g1 : w.heap.size < (w.alloc (.cells #[.string s, .int .i64 0] 101 (0, 0))).heap.size := hR.lt
  obtain ⟨g, hg⟩ : ∃ g, w.heap.size = g := ⟨_, rfl⟩
  have hlen : ws.length < s.size + 1 := by have := words_count s ws 0 (Nat.zero_le _) hws; omega
  have HL := Lib.hid hlen
  clear hlen
  rw [hg] at hR
  have HG := Lib.hid hg
  clear g1
  go_upto_region 5 with (go_at_call 47; go_must (refine (next_w g s ws F hs _ (HG.out ▸ hR)).mono ?_; rintro e wA ⟨rfl, hA, gA⟩))
  have e0 : ((hdA F ws : Int) == (s.size : Int)) = decide (ws = [] ∧ F = s.size) := by
    rw [Bool.eq_iff_iff]
    cases ws with
    | nil => simp [hdA]; omega
    | cons x r => have := hdA_lt hA; simp [hdA]; omega
  have tk := blk_new wA (.cells #[.string (hdT ws), .int .i64 (hdA F ws), .bool (hdBar ws), .bool (hdBad (decide (F < s.size)) ws)] 103 (0, 0))
  have ta := blk_cell tk 0; have tb := blk_cell tk 1; have tc := blk_cell tk 2; have td := blk_cell tk 3; have tl := blk_lt tk
  by_cases h0 : ws = [] ∧ F = s.size
  · have e1 : ((hdA F ws : Int) == (s.size : Int)) = true := by rw [e0, decide_eq_true h0]
    have HP2 : Hid (parseS spanOf s = .ok []) := Lib.hid (by rw [HP.out, if_pos h0])
    clear e0 h0
    go_wp2_with fail
    (try simp only [Exit.inBlock, Exit.then]); subst hfn; refine bodyPost_ret (results_list (rs := [.tmp _, .tmp _, .tmp _]) rfl (by simp) (.tmp (.tmp (.tmp .nil)))) rfl ?_
    rw [HP2.out]
    exact ⟨⟨_, [], rfl, rfl, OutPs.nil _ _⟩, below_alloc (pw_below_grown (below_alloc (Below.refl _ _) _) _ (by simp) gA (by intro k hk; injection hk with hk; omega)) _⟩
  have e1 : ((hdA F ws : Int) == (s.size : Int)) = false := by rw [e0, decide_eq_false h0]
  have HP2 : Hid (parseS spanOf s = parseF spanOf (decide (F < s.size)) F (s.size + 1) [] none ws) := Lib.hid (by rw [HP.out, if_neg h0])
  have hB : Below w.heap.size w (wA.alloc (.cells #[.string (hdT ws), .int .i64 (hdA F ws), .bool (hdBar ws), .bool (hdBad (decide (F < s.size)) ws)] 103 (0, 0))) := below_alloc (pw_below_grown (below_alloc (Below.refl _ _) _) _ (by simp) gA (by intro k hk; injection hk with hk; omega)) _
  have hA2 := hA.al (.cells #[.string (hdT ws), .int .i64 (hdA F ws), .bool (hdBar ws), .bool (hdBad (decide (F < s.size)) ws)] 103 (0, 0))
  clear e0 h0 hws
  go_wp2_with fail
  go_loopg [6, 7] ws.length (fun m v6 v7 wr => ∃ (ps : List (Stg × SV)) (ws2 : List Wd) (ahead : Option (List BA)) (f : Nat), m = ws2.length ∧ Hid (parseF spanOf (decide (F < s.size)) F f (ps.map Prod.fst) ahead ws2 = parseS spanOf s) ∧ Hid (ws2.length < f) ∧ Hid (ps.length ≤ 8) ∧ RAt wr g s ws2 F ∧ OutPs wr (g + 1) v6 ps ∧ AhAt wr (g + 1) v7 ahead ∧ Below w.heap.size w wr)
  case atStart =>
    exact ⟨[], ws, none, s.size + 1, rfl, Lib.hid HP2.out.symm, HL, Lib.hid (by simp), hA2, OutPs.nil _ _, rfl, hB⟩
  case round =>
    obtain ⟨ps, wv, ahead, f, hm, HPF, HFu, HL8, hR2, hO, hAh, hBl⟩ := hrel
    clear hB hA2 tk ta tb tc td tl e1 hA gA HL HP HP2 hR
    obtain ⟨A6, c6, rfl⟩ := hO.slice
    have lg := hR2.lt
    have hFle := hR2.fin_le
    have HO := Lib.hid hO
    have HA := Lib.hid hAh
    clear hO hAh
    go_upto_region 8 with (go_at_call 47; go_must (refine (next_w g s wv F hs _ hR2).mono ?_; rintro e w1 ⟨rfl, h1, g1⟩))
    have tk := blk_new w1 (.cells #[.string (hdT wv), .int .i64 (hdA F wv), .bool (hdBar wv), .bool (hdBad (decide (F < s.size)) wv)] 103 (0, 0))
    have ta := blk_cell tk 0; have tb := blk_cell tk 1; have tc := blk_cell tk 2; have td := blk_cell tk 3; have tl := blk_lt tk
    obtain ⟨bm, hbm⟩ : ∃ b, (decide (ps.length = 8) && decide (0 < (hdT wv).size)) = b := ⟨_, rfl⟩
    have HBM := Lib.hid hbm
    clear hbm
    go_cut [32] (fun v wx => v = .bool bm ∧ wx = w1.alloc (.cells #[.string (hdT wv), .int .i64 (hdA F wv), .bool (hdBar wv), .bool (hdBad (decide (F < s.size)) wv)] 103 (0, 0)))
    case first =>
      by_cases h8 : ps.length = 8
      · have e8 : ((ps.length : Int) == 8) = true := by simp [h8]
        by_cases hz : (hdT wv).size = 0
        · have e1 := tl_nil hz
          go_wp2_with fail
          go_meet
          exact ⟨by rw [← HBM.out]; simp [hz], rfl⟩
        · have e1 := tl_ne (s := hdT wv) (by omega)
          have e2 := tl_empty (s := hdT wv) (by omega)
          go_wp2_with fail
          go_meet
          exact ⟨by rw [← HBM.out]; simp [h8]; omega, rfl⟩
      · have e8 : ((ps.length : Int) == 8) = false := by simp; omega
        go_wp2_with fail
        go_meet
        exact ⟨by rw [← HBM.out]; simp [h8], rfl⟩
    case rest =>
      obtain ⟨rfl, rfl⟩ := hcut
      cases bm with
      | true =>
        have hmany : ps.length = 8 ∧ 0 < (hdT wv).size := by have := HBM.out; simpa using this
        have HS : Hid (parseS spanOf s = .many (hdA F wv)) := by
          rw [← HPF.out]
          cases wv with
          | nil => exact absurd hmany.2 (by decide)
          | cons x r =>
            obtain ⟨t, a⟩ := x
            have hne : t ≠ barT := by rintro rfl; exact absurd hmany.2 (by rw [hdT, if_pos rfl]; decide)
            obtain ⟨f', rfl⟩ : ∃ f', f = f' + 1 := ⟨f - 1, by have := HFu.out; omega⟩
            rw [parseF.eq_def]; dsimp only
            rw [if_pos ⟨by rw [List.length_map]; exact hmany.1, hne⟩]; exact Lib.hid rfl
        clear hmany
        go_wp2_with fail
        go_region
        go_wp2
        (try simp only [Exit.inBlock, Exit.then]); subst hfn; refine bodyPost_ret (results_list (rs := [.tmp _, .tmp _, .tmp _]) rfl (by simp) (.tmp (.tmp (.tmp .nil)))) rfl ?_
        rw [HS.out]
        have hB1 := pw_below_grown hBl _ hBl.size g1 (by intro k hk; injection hk with hk; omega)
        exact ⟨rfl, (by repeat (first | assumption | (with_reducible apply below_alloc) | (with_reducible apply pw_below_drewN) | (with_reducible apply below_drew) | (with_reducible apply Below.refl) | (with_reducible refine bw_set ?_ (by first | (dsimp only; omega) | omega | (simp; done) | (simp; omega)) _)))⟩
      | false =>
        have hmany : ∀ t a r, wv = (t, a) :: r → ¬ ((ps.map Prod.fst).length = 8 ∧ t ≠ barT) := by
          rintro t a r rfl ⟨h8, hne⟩
          have h1 := hdT_pos hR2 hne
          have h2 := HBM.out
          rw [List.length_map] at h8
          rw [hdT, if_neg hne, decide_eq_true h8, decide_eq_true h1] at h2
          cases h2
        obtain ⟨f, rfl⟩ : ∃ f', f = f' + 1 := ⟨f - 1, by have := HFu.out; omega⟩
        have HM8 := Lib.hid hmany
        have HN := Lib.hid (parse_step (odd := decide (F < s.size)) (F := F) (f := f) (ahead := ahead) hmany)
        clear hmany tk ta tb tc td tl
        have h2 := h1.al (.cells #[.string (hdT wv), .int .i64 (hdA F wv), .bool (hdBar wv), .bool (hdBad (decide (F < s.size)) wv)] 103 (0, 0))
        have g2 := gb_alloc g1 (.cells #[.string (hdT wv), .int .i64 (hdA F wv), .bool (hdBar wv), .bool (hdBad (decide (F < s.size)) wv)] 103 (0, 0))
        cases hst : stageS spanOf (decide (F < s.size)) F ahead wv with
        | bad a =>
          have HS : Hid (parseS spanOf s = .stage a) := by exact Lib.hid (by rw [← HPF.out, HN.out, hst]; rfl)
          go_wp2_with (go_at_call 48; go_must (refine (stage_bad g s wv F a hs _ ahead _ h2 ((HA.out.grown g2 (Nat.lt_succ_self _)).ahd (Nat.lt_succ_self _)) hst).mono ?_; rintro e w3 ⟨⟨k3, n3, A3, l3, c3, rfl⟩, g3⟩))
          have hB3 := pw_below_grown hBl _ hBl.size (gb_trans g2 g3) (by intro k hk; injection hk with hk; omega)
          (try simp only [Exit.inBlock, Exit.then]); subst hfn; refine bodyPost_ret (results_list (rs := [.tmp _, .tmp _, .tmp _]) rfl (by simp) (.tmp (.tmp (.tmp .nil)))) rfl ?_
          rw [HS.out]
          exact ⟨rfl, (by repeat (first | assumption | (with_reducible apply below_alloc) | (with_reducible apply pw_below_drewN) | (with_reducible apply below_drew) | (with_reducible apply Below.refl) | (with_reducible refine bw_set ?_ (by first | (dsimp only; omega) | omega | (simp; done) | (simp; omega)) _)))⟩
        | ok x wn =>
          have HS : Hid (parseS spanOf s = stepS (decide (F < s.size)) F f (ps.map Prod.fst) ahead (.ok x wn)) := Lib.hid (by rw [← HPF.out, HN.out, hst])
          have hlt := stage_lt hst
          have HW : Hid (wn.length < wv.length) := Lib.hid hlt
          have hmay := (stage_ok hst).1
          rw [mayS, Bool.and_eq_true] at hmay
          obtain ⟨k, hk, k1, k2, _, _, _, b4, _⟩ := goodS_spec hmay.1
          have hnl : x.names.length ≤ 64 := by
            have : ∀ j : Fin 14, (bnd (j.val : Int)).2.2.2 ≤ 64 := by decide
            have := this ⟨k, by omega⟩
            simp only at this; omega
          have hhead := (head_names hmay.1).2
          have HH := Lib.hid hhead
          have HK := Lib.hid hk
          have HK2 := Lib.hid k2
          have HNL := Lib.hid hnl
          have HP8 : Hid (ps.length < 8) := by
            obtain ⟨t, a, q, hq, hne⟩ := (stage_ok hst).2
            have h5 := HM8.out t a q hq
            rw [List.length_map] at h5
            have h6 : ps.length ≠ 8 := fun e => h5 ⟨e, hne⟩
            have := HL8.out
            exact Lib.hid (by omega)
          clear hmay k1 k2 b4 hnl hhead hk hlt
          obtain ⟨tb, htb⟩ : ∃ b, (decide (x.kind ≤ 8) || decide (x.kind = 12)) = b := ⟨_, rfl⟩
          have HTB := Lib.hid htb
          clear htb
          go_upto_region 14 with (first | (go_at_call 48; go_must (refine (stage_good g s wv wn F x hs _ ahead _ h2 ((HA.out.grown g2 (Nat.lt_succ_self _)).ahd (Nat.lt_succ_self _)) hst).mono ?_; rintro e w3 ⟨⟨A3, c3, rfl, hN3, h3⟩, g3⟩; have tx := blk_new w3 (.cells #[.int .i64 x.kind, .int .i64 x.n, .slice A3 x.names.length c3] 43 (0, 0)); have xa := blk_cell tx 0; have xb := blk_cell tx 1; have xc := blk_cell tx 2; have xx := blk_frozen tx 0; have xy := blk_frozen tx 1; have xz := blk_frozen tx 2; have xl := blk_lt tx; have g4 := gb_alloc (gb_trans g2 g3) (.cells #[.int .i64 x.kind, .int .i64 x.n, .slice A3 x.names.length c3] 43 (0, 0)); have O4 := Lib.hid (HO.out.grown g4 (Nat.lt_succ_self _)); have A4 := Lib.hid (HA.out.grown g4 (Nat.lt_succ_self _)))) | (at_builtin; go_must (refine Kd.R_append scK (w0 := w3.alloc (.cells #[.int .i64 x.kind, .int .i64 x.n, .slice A3 x.names.length c3] 43 (0, 0))) (W := w3.alloc (.cells #[.int .i64 x.kind, .int .i64 x.n, .slice A3 x.names.length c3] 43 (0, 0))) (g + 1) rfl _ _ 23 43 (.agg #[.int .i64 0, .int .i64 0, .slice none 0 0]) 40 rfl Tryz.underlying23 info_stage rfl (by decide) (by omega) (.slice A6 ps.length c6) (ps.map cellsOf) (cellsOf (x, ⟨A3, x.names.length, c3⟩)) [.int .i64 x.kind, .int .i64 x.n, .slice A3 x.names.length c3] (fun j => g + 1 ≤ j) (fun _ => False) rfl (by show Value.slice (some ⟨w3.heap.size + 1, 0, none⟩) 1 1 = _; simp) ⟨[_], [_, _], rfl, rfl, [_], [_], rfl, rfl, rfl⟩ (fun _ hk => hk.elim) (by intro k hk; have := g4.size; omega) O4.out.row (Below.refl _ _) (by have := g4.size; omega) (by have := HP8.out; rw [List.length_map]; omega) ?_; rintro v6 w6 hV6 hB6 hG6 hat6)))
          have hR4 : wr.heap.size ≤ w3.heap.size := (gb_trans g2 g3).size
          have hob : some w3.heap.size ≠ (Value.slice A6 ps.length c6).ownBlock := by
            intro e
            have := Kd.R_lt HO.out.row _ e.symm
            omega
          have nR : RAt w6 g s wn F := (h3.al (.cells #[.int .i64 x.kind, .int .i64 x.n, .slice A3 x.names.length c3] 43 (0, 0))).gr hG6 (Kd.R_away O4.out.row (fun k hk => by omega))
          have nX := blk_grown tx hG6 hob
          have nO : OutPs w6 (g + 1) v6 (ps ++ [(x, ⟨A3, x.names.length, c3⟩)]) := by
            refine OutPs.snoc O4.out (b := (w1.alloc (.cells #[.string (hdT wv), .int .i64 (hdA F wv), .bool (hdBar wv), .bool (hdBad (decide (F < s.size)) wv)] 103 (0, 0))).heap.size) (Kd.R_alloc hN3 _) (by have := g2.size; omega) (fun p hp k hk => ?_) hV6 hG6
            have h5 := Kd.R_lt (HO.out.names p hp) k hk
            have := g2.size
            omega
          have nA := A4.out.over O4.out hG6
          have nN : Kd.string.R 9 w6 (g + 1) (fun k => g + 1 ≤ k) (.slice A3 x.names.length c3) x.names := nO.names (x, ⟨A3, x.names.length, c3⟩) (by simp)
          have nB : Below w.heap.size w w6 := below_weaken (pw_below_grown hBl _ hBl.size g4 (by intro k hk; injection hk with hk; omega)) (by omega) hB6
          clear xa xb xc xx xy xz xl tx hV6 hB6 hG6 hat6 O4 A4 g4 hN3 h3 g3 g2 h2 h1 g1 hob hBl
          have xa := blk_cell nX 0; have xb := blk_cell nX 1; have xc := blk_cell nX 2; have xx := blk_frozen nX 0; have xy := blk_frozen nX 1; have xz := blk_frozen nX 2; have xl := blk_lt nX
          go_upto_if 50 with (go_at_call 49; go_must (refine (table_calls _ _).mono ?_; rintro e wT ⟨rfl, rfl⟩; rw [HTB.out]))
          go_cut [7] (fun v wx => AhAt wx (g + 1) v (nextH ahead x) ∧ RAt wx g s wn F ∧ OutPs wx (g + 1) v6 (ps ++ [(x, ⟨A3, x.names.length, c3⟩)]) ∧ Below w.heap.size w wx)
          case first =>
            cases tb with
            | true =>
              have ht : tableB x.kind = true := HTB.out
              have HT := Lib.hid ht
              clear ht
              go_wp2_with (go_at_call 50; go_must (refine (head_calls x k HK.out HK2.out A3 c3 _ (Kd.R_reads' nN).2.2 HNL.out).mono ?_; rintro e w7 ⟨hB7, v7, rfl, h12, hno⟩))
              go_meet
              refine ⟨?_, nR.below hB7, ⟨Kd.R_below nO.row hB7, fun p hp => Kd.R_below (nO.names p hp) hB7, nO.apart⟩, bw_trans nB hB7⟩
              rw [nextH, HT.out]
              refine ⟨?_, HH.out HT.out⟩
              by_cases e12 : x.kind = 12
              · rw [h12 e12, show headS x = x.names by rw [headS, if_neg (by omega), if_neg (by omega), if_pos e12]]
                exact Kd.R_below nN hB7
              · exact R_wide (hno e12) nR.lt
            | false =>
              have ht : tableB x.kind = false := HTB.out
              have HT := Lib.hid ht
              clear ht
              go_wp2_with fail
              go_meet
              exact ⟨by rw [nextH, HT.out]; exact nA, nR, nO, nB⟩
          case rest =>
            clear nR nX nO nA nN nB xa xb xc xx xy xz xl
            obtain ⟨nA, nR, nO, nB⟩ := hcut
            have lg2 := nR.lt
            cases wn with
            | nil =>
              have hnx : ∀ W : World, RAt W g s [] F → Calls Tryz.prog 47 #[.pointer (some ⟨g, 0, none⟩)] W fun e w' => e = .returned (.agg #[.string ByteArray.empty, .int .i64 F, .bool false, .bool (decide (F < s.size))]) ∧ RAt w' g s [] F ∧ W.grownBy w' (some g) := fun W h => next_w g s [] F hs W h
              have HNX := Lib.hid hnx
              clear hnx
              by_cases hF2 : F < s.size
              · have e1 : (F : Int) < (s.size : Int) := by omega
                have HE : Hid (parseS spanOf s = .stage F) := Lib.hid (by rw [HS.out, stepS, decide_eq_true hF2]; rfl)
                clear hF2
                go_wp2_with (go_at_call 47; go_must (refine (HNX.out _ nR).mono ?_; rintro e w8 ⟨rfl, h8, g8⟩; have tk := blk_new w8 (.cells #[.string ByteArray.empty, .int .i64 F, .bool false, .bool (decide (F < s.size))] 103 (0, 0)); have ta := blk_cell tk 0; have tb := blk_cell tk 1; have tc := blk_cell tk 2; have td := blk_cell tk 3; have tl := blk_lt tk))
                go_region
                go_wp2
                have hB9 := pw_below_grown nB _ nB.size g8 (by intro k hk; injection hk with hk; omega)
                (try simp only [Exit.inBlock, Exit.then]); subst hfn; refine bodyPost_ret (results_list (rs := [.tmp _, .tmp _, .tmp _]) rfl (by simp) (.tmp (.tmp (.tmp .nil)))) rfl ?_
                rw [HE.out]
                exact ⟨rfl, (by repeat (first | assumption | (with_reducible apply below_alloc) | (with_reducible apply pw_below_drewN) | (with_reducible apply below_drew) | (with_reducible apply Below.refl) | (with_reducible refine bw_set ?_ (by first | (dsimp only; omega) | omega | (simp; done) | (simp; omega)) _)))⟩
              · have e1 : (s.size : Int) ≤ (F : Int) := by omega
                have HE : Hid (parseS spanOf s = .ok (ps.map Prod.fst ++ [x])) := Lib.hid (by rw [HS.out, stepS, decide_eq_false hF2]; rfl)
                clear hF2
                go_wp2_with (go_at_call 47; go_must (refine (HNX.out _ nR).mono ?_; rintro e w8 ⟨rfl, h8, g8⟩; have tk := blk_new w8 (.cells #[.string ByteArray.empty, .int .i64 F, .bool false, .bool (decide (F < s.size))] 103 (0, 0)); have ta := blk_cell tk 0; have tb := blk_cell tk 1; have tc := blk_cell tk 2; have td := blk_cell tk 3; have tl := blk_lt tk))
                have hB9 := pw_below_grown nB _ nB.size g8 (by intro k hk; injection hk with hk; omega)
                (try simp only [Exit.inBlock, Exit.then]); subst hfn; refine bodyPost_ret (results_list (rs := [.tmp _, .tmp _, .tmp _]) rfl (by simp) (.tmp (.tmp (.tmp .nil)))) rfl ?_
                rw [HE.out]
                exact ⟨⟨_, ps ++ [(x, ⟨A3, x.names.length, c3⟩)], rfl, by simp, ((nO.grown g8 (Nat.lt_succ_self _)).below (below_alloc (Below.refl _ _) _)).wide (by omega)⟩, (by repeat (first | assumption | (with_reducible apply below_alloc) | (with_reducible apply pw_below_drewN) | (with_reducible apply below_drew) | (with_reducible apply Below.refl) | (with_reducible refine bw_set ?_ (by first | (dsimp only; omega) | omega | (simp; done) | (simp; omega)) _)))⟩
            | cons y r =>
              obtain ⟨t, a⟩ := y
              by_cases ht : t = barT
              · have e1 : hdBar ((t, a) :: r) = true := by simp [hdBar, ht]
                have HE : Hid (parseS spanOf s = parseF spanOf (decide (F < s.size)) F f (ps.map Prod.fst ++ [x]) (nextH ahead x) r) := Lib.hid (by rw [HS.out, stepS, if_pos ht])
                clear ht
                have hnx : ∀ W : World, RAt W g s ((t, a) :: r) F → Calls Tryz.prog 47 #[.pointer (some ⟨g, 0, none⟩)] W fun e w' => e = .returned (.agg #[.string (hdT ((t, a) :: r)), .int .i64 a, .bool true, .bool false]) ∧ RAt w' g s ((t, a) :: r) F ∧ W.grownBy w' (some g) := fun W h => by
                  have := next_w g s ((t, a) :: r) F hs W h
                  rw [e1] at this
                  exact this
                have hps : ∀ W : World, RAt W g s ((t, a) :: r) F → Calls Tryz.prog 51 #[.pointer (some ⟨g, 0, none⟩), .agg #[.string (hdT ((t, a) :: r)), .int .i64 a, .bool true, .bool false]] W fun e w' => e = .returned (.tuple #[]) ∧ RAt w' g s r F ∧ W.grownBy w' (some g) := fun W h => by
                  have := pass_w g s t a r F false hs W h
                  rw [e1] at this
                  exact this
                have HNX := Lib.hid hnx
                have HPS := Lib.hid hps
                clear hnx hps e1
                generalize hdT ((t, a) :: r) = tt at HNX HPS
                go_wp2_with (first | (go_at_call 47; go_must (refine (HNX.out _ nR).mono ?_; rintro e w8 ⟨rfl, h8, g8⟩; have tk := blk_new w8 (.cells #[.string tt, .int .i64 a, .bool true, .bool false] 103 (0, 0)); have ta := blk_cell tk 0; have tb := blk_cell tk 1; have tc := blk_cell tk 2; have td := blk_cell tk 3; have tl := blk_lt tk)) | (go_at_call 51; go_must (refine (HPS.out _ (h8.al _)).mono ?_; rintro e w9 ⟨rfl, h9, g9⟩)))
                have G9 := gb_trans (gb_alloc g8 _) g9
                go_roundg r.length
                case rel =>
                  refine ⟨ps ++ [(x, ⟨A3, x.names.length, c3⟩)], r, nextH ahead x, f, rfl, Lib.hid (by rw [HE.out]; simp), Lib.hid (by have := HFu.out; have := HW.out; simp at this; omega), Lib.hid (by have := HP8.out; simp; omega), h9, nO.grown G9 (Nat.lt_succ_self _), nA.grown G9 (Nat.lt_succ_self _), pw_below_grown nB _ nB.size G9 (by intro k hk; injection hk with hk; omega)⟩
                case measure => have := HW.out; rw [hm]; simp at this ⊢; omega
              · have e1 : hdBar ((t, a) :: r) = false := by simp [hdBar, ht]
                have e2 : (a : Int) < (s.size : Int) := by have := hdA_lt nR; omega
                have e3 : hdA F ((t, a) :: r) = a := rfl
                have HE : Hid (parseS spanOf s = .stage a) := Lib.hid (by rw [HS.out, stepS, if_neg ht])
                clear ht
                go_wp2_with (go_at_call 47; go_must (refine (next_w g s _ F hs _ nR).mono ?_; rintro e w8 ⟨rfl, h8, g8⟩; have tk := blk_new w8 (.cells #[.string (hdT ((t, a) :: r)), .int .i64 (hdA F ((t, a) :: r)), .bool (hdBar ((t, a) :: r)), .bool (hdBad (decide (F < s.size)) ((t, a) :: r))] 103 (0, 0)); have ta := blk_cell tk 0; have tb := blk_cell tk 1; have tc := blk_cell tk 2; have td := blk_cell tk 3; have tl := blk_lt tk))
                go_region
                go_wp2
                have hB9 := pw_below_grown nB _ nB.size g8 (by intro k hk; injection hk with hk; omega)
                (try simp only [Exit.inBlock, Exit.then]); subst hfn; refine bodyPost_ret (results_list (rs := [.tmp _, .tmp _, .tmp _]) rfl (by simp) (.tmp (.tmp (.tmp .nil)))) rfl ?_
                rw [HE.out]
                exact ⟨rfl, (by repeat (first | assumption | (with_reducible apply below_alloc) | (with_reducible apply pw_below_drewN) | (with_reducible apply below_drew) | (with_reducible apply Below.refl) | (with_reducible refine bw_set ?_ (by first | (dsimp only; omega) | omega | (simp; done) | (simp; omega)) _)))⟩
end Go.Proofs.YtjcnjpljngabfaaGreatDoor
