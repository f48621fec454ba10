import Derived.Test.YtjcnjpljngabfaaGreatDoorP9
namespace Go.Proofs.YtjcnjpljngabfaaGreatDoor
open Go.RowKit Go.Proofs.YtjcnjpljngabfaaGreatDoorW.PrintWords
set_option linter.unusedVariables false
set_option linter.unusedSimpArgs false
/-- what Print tells -/
def printE (l : List Stg) : BA := if rightS l then printS l else ByteArray.empty
theorem osz {l : List Stg} {o : BA} {r : List UInt8} (hr : rightS l = true) (h : o.data.toList ++ r = printL l) : o.size + r.length ≤ 50000 := by
  have h1 := congrArg List.length h
  have h2 := print_len hr
  rw [List.length_append] at h1
  have h3 : o.data.toList.length = o.size := rfl
  omega
theorem app_list (a b : BA) : (a ++ b).data.toList = a.data.toList ++ b.data.toList := by rw [ByteArray.data_append, Array.toList_append]
set_option maxRecDepth 100000 in
set_option maxHeartbeats 4000000 in
theorem Print_calls (l : List Stg) (A : Option Addr) (c : Nat) (w : World) (hC : stgK.C w A l.length l) (hsz : ∀ x ∈ l, ∀ y ∈ x.names, y.size ≤ 140737488351232) (T : Tab10 w) :
    Calls Tryz.prog 20 #[.slice A l.length c] w fun e w' => e = .returned (.tuple #[.string (printE l), .int .i64 (rightE l)]) ∧ Below w.heap.size w w' := by
  have hmx := Kd.C_max hC
  have HC := Lib.hid hC
  have HSZ := Lib.hid hsz
  have HT := Lib.hid T
  clear hC hsz T
  go_enter Tryz.func20, Tryz.ntmps20
  by_cases hr : rightS l = true
  · have HR := Lib.hid hr
    have HE : Hid (rightE l = 0) := Lib.hid (rightE_zero.2 hr)
    have HP : Hid (printE l = printS l) := Lib.hid (by rw [printE, if_pos hr])
    have hl8 : l.length ≤ 8 := by rw [rightS, Bool.and_eq_true, decide_eq_true_eq] at hr; exact hr.1
    clear hr
    go_upto_block 0 with (go_at_call 21; go_must (refine (Right_calls l A c _ HC.out HSZ.out).mono ?_; rintro e w1 ⟨rfl, hB1⟩; rw [HE.out]))
    go_cut [5] (fun v wx => v = .string (printS l) ∧ Below w.heap.size w wx)
    case first =>
      go_wp2_with fail
      go_loopg [5, 19] l.length (fun m v5 v19 wr => ∃ (i : Nat) (o : BA), m = l.length - i ∧ i ≤ l.length ∧ v19 = .int .i64 i ∧ v5 = .string o ∧ Hid (o.data.toList ++ restB l i = printL l) ∧ Below w.heap.size w wr)
      case atStart => exact ⟨0, ⟨#[]⟩, rfl, Nat.zero_le _, rfl, rfl, Lib.hid (by rw [restB, if_pos rfl]; rfl), hB1⟩
      case round =>
        obtain ⟨i, o, hm, hi, rfl, rfl, HO, hB⟩ := hrel
        clear hB1
        by_cases hlt : i < l.length
        · obtain ⟨b, off, rfl, hst⟩ := stgs_plain HC.out (by omega)
          have hs := (hst i hlt).below hB
          have hg := right_good l none (by have := HR.out; rw [rightS, Bool.and_eq_true] at this; exact this.2) l[i] (List.getElem_mem hlt)
          have hrs := rest_at hlt
          obtain ⟨x, hx⟩ : ∃ x, l[i] = x := ⟨_, rfl⟩
          rw [hx] at hs hg hrs
          obtain ⟨h0, h1, A3, c3, h2, h3, h4⟩ := hs
          have H4 := Lib.hid h4
          have HRS := Lib.hid hrs
          have hlt' : (i : Int) < l.length := by omega
          obtain ⟨k, hk, k1, k2, b1, b2, b3, b4, _⟩ := goodS_spec hg
          obtain ⟨hn1, hn2, hn3, hn4⟩ := good_max hg
          obtain ⟨kd, n', nm⟩ := x
          obtain ⟨n, rfl⟩ : ∃ n : Nat, n' = n := ⟨n'.toNat, by simp only at hn2; omega⟩
          simp only at hk hn1 hn2 hn3 hn4 h0 h1 h2 h3 h4 H4
          subst hk
          have HN4 := Lib.hid hn4
          have HRST : ∃ rs, restB l (i + 1) = rs := ⟨_, rfl⟩
          obtain ⟨rs, hrs2⟩ := HRST
          have hone : k = 13 → nm.length = 1 := by
            intro e
            subst e
            have e3 : (bnd ((13 : Nat) : Int)).2.2.1 = 1 := by decide
            have e4 : (bnd ((13 : Nat) : Int)).2.2.2 = 1 := by decide
            simp only at b3 b4
            omega
          have HONE := Lib.hid hone
          have hn3b : k = 3 → 1 ≤ n := by
            intro e
            subst e
            have e3 : (bnd ((3 : Nat) : Int)).1 = 1 := by decide
            simp only at b1
            omega
          have hn1b : k = 1 → n = 0 := by
            intro e
            subst e
            have e3 : (bnd ((1 : Nat) : Int)).2.1 = 0 := by decide
            simp only at b2
            omega
          have HN3 := Lib.hid hn3b
          have HN1 := Lib.hid hn1b
          clear hst hx h4 hrs hg b1 b2 b3 b4 hn4 hone hn3b hn1b
          have tx := blk_new wr (.cells #[.int .i64 k, .int .i64 n, .slice A3 nm.length c3] 43 (0, 0))
          have xa := blk_cell tx 0; have xb := blk_cell tx 1; have xc := blk_cell tx 2; have xx := blk_frozen tx 0; have xy := blk_frozen tx 1; have xz := blk_frozen tx 2; have xl := blk_lt tx
          go_upto_block 1 with fail
          go_cut [5] (fun v wx => ∃ o2 : BA, v = .string o2 ∧ Hid (o2.data.toList ++ rs = printL l) ∧ Below w.heap.size w wx)
          case first =>
            go_upto_if 25 with fail
            go_cut [5] (fun v wx => ∃ o1 : BA, v = .string o1 ∧ Hid (o1.data.toList ++ (stageB ⟨k, n, nm⟩ ++ rs) = printL l) ∧ wx = wr.alloc (.cells #[.int .i64 k, .int .i64 n, .slice A3 nm.length c3] 43 (0, 0)))
            case first =>
              have h6 := HO.out
              rw [HRS.out, hrs2] at h6
              by_cases h00 : i = 0
              · have z : ¬ (0 : Int) < i := by omega
                rw [if_pos h00, List.nil_append] at h6
                have H6 := Lib.hid h6
                clear h6 hrs2 h00
                go_wp2_with fail
                go_meet
                exact ⟨o, rfl, H6, rfl⟩
              · have z : (0 : Int) < i := by omega
                rw [if_neg h00] at h6
                have hsz := osz HR.out h6
                have hs1 : o.size + 3 ≤ 9223372036854775807 := by omega
                have H6 := Lib.hid h6
                clear h6 hrs2 hsz h00
                go_wp2_with fail
                go_meet
                exact ⟨o ++ ⟨#[32, 124, 32]⟩, rfl, Lib.hid (by rw [app_list, List.append_assoc]; exact H6.out), rfl⟩
            case rest =>
              obtain ⟨o1, rfl, H1, rfl⟩ := hcut
              clear hrs2
              obtain ⟨kw, hkw⟩ : ∃ kw, kwL.getD k ByteArray.empty = kw := ⟨_, rfl⟩
              have hk14 : k < 14 := by omega
              have HKW := Lib.hid hkw
              by_cases hf : k = 13 ∧ n = 1
              · obtain ⟨y, hy⟩ := one_name (l := nm) (by have := HONE.out hf.1; omega) (by have := HONE.out hf.1; omega)
                have z3 : ((k : Int) == 3) = false := by simp; omega
                have z1 : ((k : Int) == 1) = false := by simp; omega
                have z13 : ((k : Int) == 13) = true := by simp; omega
                have zn : ((n : Int) == 1) = true := by simp; omega
                have hl1 : (0 : Int) < nm.length := by rw [hy]; simp
                obtain ⟨b3, o3, hA3, hcell⟩ := strs_plain H4.out (by omega)
                subst hA3
                have hc0 := hcell 0 (by omega)
                have hy0 : nm.getD 0 ByteArray.empty = y := by rw [hy]; rfl
                rw [hy0] at hc0
                have hc0 : wr.cell? ⟨b3, o3, none⟩ = some (.string y) := hc0
                have h7 := H1.out
                rw [stage_fall (x := ⟨k, n, nm⟩) ⟨by simp only; omega, by simp only; omega⟩] at h7
                simp only [hy, List.headD_cons, Int.toNat_natCast] at h7
                rw [hkw] at h7
                have hsz := osz HR.out h7
                simp only [List.length_append, List.length_cons] at hsz
                have hkl : kw.data.toList.length = kw.size := rfl
                have hyl : y.data.toList.length = y.size := rfl
                have hs1 : o1.size + kw.size ≤ 9223372036854775807 := by omega
                have hs2 : 2 + y.size ≤ 9223372036854775807 := by omega
                have hs3 : o1.size + kw.size + (2 + y.size) ≤ 9223372036854775807 := by omega
                have H7 := Lib.hid h7
                have hc1 := pw_cell_below (below_alloc (Below.refl _ _) (.cells #[.int .i64 k, .int .i64 n, .slice (some ⟨b3, o3, none⟩) nm.length c3] 43 (0, 0))) hc0
                clear h7 hsz hkl hyl hf hy hy0 hcell hc0 hkw
                go_wp2_with (go_at_call 58; go_must (refine (word_calls k hk14 _).mono ?_; rintro e w5 ⟨rfl, hB5⟩; rw [HKW.out]; have nX := blk_below tx hB5; have nc := pw_cell_below hB5 hc1; clear xa xb xc xx xy xz xl; have xa := blk_cell nX 0; have xb := blk_cell nX 1; have xc := blk_cell nX 2; have xx := blk_frozen nX 0; have xy := blk_frozen nX 1; have xz := blk_frozen nX 2; have xl := blk_lt nX))
                go_meet
                refine ⟨o1 ++ kw ++ (⟨#[32, 45]⟩ ++ y), rfl, Lib.hid ?_, bw_trans (below_alloc hB _) hB5⟩
                rw [← H7.out, app_list, app_list, app_list]; simp
              · have h7 := H1.out
                rw [stage_pre (x := ⟨k, n, nm⟩) (by simp only; omega)] at h7
                simp only [Int.toNat_natCast] at h7
                rw [hkw, List.append_assoc, List.append_assoc] at h7
                have hsz := osz HR.out h7
                simp only [List.length_append, List.length_cons] at hsz
                have hkl : kw.data.toList.length = kw.size := rfl
                have hs1 : o1.size + kw.size ≤ 9223372036854775807 := by omega
                have hpre := fun (x : List UInt8) (h : preS ⟨k, n, nm⟩ = x) => (show o1.size + kw.size + x.length ≤ 50000 by rw [← h]; omega)
                have HPRE := Lib.hid hpre
                have H7 := Lib.hid h7
                have HF := Lib.hid hf
                clear h7 hsz hkl hf hkw hpre
                go_upto_block 2 with (go_at_call 58; go_must (refine (word_calls k hk14 _).mono ?_; rintro e w5 ⟨rfl, hB5⟩; rw [HKW.out]; have nX := blk_below tx hB5; clear xa xb xc xx xy xz xl; have xa := blk_cell nX 0; have xb := blk_cell nX 1; have xc := blk_cell nX 2; have xx := blk_frozen nX 0; have xy := blk_frozen nX 1; have xz := blk_frozen nX 2; have xl := blk_lt nX))
                go_cut [5] (fun v wx => ∃ o3 : BA, v = .string o3 ∧ Hid (o3.data.toList ++ (blkB nm ++ rs) = printL l) ∧ Below (wr.alloc (.cells #[.int .i64 k, .int .i64 n, .slice A3 nm.length c3] 43 (0, 0))).heap.size (wr.alloc (.cells #[.int .i64 k, .int .i64 n, .slice A3 nm.length c3] 43 (0, 0))) wx)
                case first =>
                  have fin : ∀ p : BA, preS ⟨k, n, nm⟩ = p.data.toList → Hid ((o1 ++ kw ++ p).data.toList ++ (blkB nm ++ rs) = printL l) := fun p hp => Lib.hid (by rw [← H7.out, hp, app_list, app_list]; simp)
                  have FIN := Lib.hid fin
                  clear fin
                  by_cases e3 : k = 3
                  · have z3 : ((k : Int) == 3) = true := by simp [e3]
                    have hp : preS ⟨k, n, nm⟩ = (⟨#[32]⟩ ++ spellT n : BA).data.toList := by rw [preS, if_pos (by simp only; omega), app_list]; simp
                    have hs := HPRE.out _ hp
                    rw [show ((⟨#[32]⟩ ++ spellT n : BA).data.toList).length = 1 + (spellT n).size from by rw [app_list, List.length_append]; rfl] at hs
                    have hs2 : 1 + (spellT n).size ≤ 9223372036854775807 := by omega
                    have hs3 : o1.size + kw.size + (1 + (spellT n).size) ≤ 9223372036854775807 := by omega
                    have HF2 := FIN.out _ hp
                    have hn1' := HN3.out e3
                    clear hp hs e3
                    go_wp2_with (go_at_call 59; go_must (refine (Spell_calls n hn1' (by omega) _ (HT.out.below (bw_trans (below_alloc hB _) hB5))).mono ?_; rintro e w7 ⟨rfl, hB7⟩))
                    go_meet
                    exact ⟨_, rfl, HF2, bw_trans hB5 hB7⟩
                  have z3 : ((k : Int) == 3) = false := by simp; omega
                  by_cases e1 : k = 1 ∧ 0 < nm.length
                  · have z1 : ((k : Int) == 1) = true := by simp; omega
                    have hl1 : (0 : Int) < nm.length := by omega
                    have hp : preS ⟨k, n, nm⟩ = (⟨#[32, 98, 121]⟩ : BA).data.toList := by rw [preS, if_neg (by simp only; omega), if_pos (by simp only; omega)]; rfl
                    have hs := HPRE.out _ hp
                    simp only [List.length_cons, List.length_nil] at hs
                    have hs2 : o1.size + kw.size + 3 ≤ 9223372036854775807 := by omega
                    have HF2 := FIN.out _ hp
                    clear hp hs e1
                    go_wp2_with fail
                    go_meet
                    exact ⟨_, rfl, HF2, hB5⟩
                  have hpe : preS ⟨k, n, nm⟩ = if k ≠ 13 ∧ 0 < n then 32 :: (numT n).data.toList else [] := by
                    rw [preS, if_neg (by simp only; omega), if_neg (by simp only; omega)]
                    by_cases h : k ≠ 13 ∧ 0 < n
                    · rw [if_pos h, if_pos (by simp only; omega), Int.toNat_natCast]
                    · rw [if_neg h, if_neg (by simp only; omega)]
                  by_cases e13 : k = 13
                  · have z1 : ((k : Int) == 1) = false := by simp; omega
                    have z13 : ((k : Int) == 13) = true := by simp [e13]
                    have z13n : ((k : Int) != 13) = false := by simp [e13]
                    have zn : ((n : Int) == 1) = false := by have := HF.out; simp; omega
                    have hp : preS ⟨k, n, nm⟩ = (⟨#[]⟩ : BA).data.toList := by rw [hpe, if_neg (by omega)]
                    have HF2 := FIN.out _ hp
                    clear hp hpe e1 e3 e13
                    go_wp2_with fail
                    go_meet
                    exact ⟨_, rfl, Lib.hid (by have := HF2.out; rwa [show o1 ++ kw ++ (⟨#[]⟩ : BA) = o1 ++ kw from ByteArray.ext (by simp [ByteArray.data_append])] at this), hB5⟩
                  have z13 : ((k : Int) == 13) = false := by simp; omega
                  have z13n : ((k : Int) != 13) = true := by rw [bne_iff_ne]; omega
                  by_cases en : 0 < n
                  · have e1' : k ≠ 1 := fun e => by have := HN1.out e; omega
                    have z1 : ((k : Int) == 1) = false := by simp; omega
                    have hn0 : (0 : Int) < n := by omega
                    have hp : preS ⟨k, n, nm⟩ = (⟨#[32]⟩ ++ numT n : BA).data.toList := by rw [hpe, if_pos ⟨e13, en⟩, app_list]; simp
                    have hs := HPRE.out _ hp
                    rw [show ((⟨#[32]⟩ ++ numT n : BA).data.toList).length = 1 + (numT n).size from by rw [app_list, List.length_append]; rfl] at hs
                    have hs2 : 1 + (numT n).size ≤ 9223372036854775807 := by omega
                    have hs3 : o1.size + kw.size + (1 + (numT n).size) ≤ 9223372036854775807 := by omega
                    have hn63 : n ≤ 9223372036854775807 := by omega
                    have HF2 := FIN.out _ hp
                    clear hp hs hpe e1 e3 e13 en e1'
                    go_wp2_with (go_at_call 60; go_must (refine (itoa_calls n hn63 _ (HT.out.below (bw_trans (below_alloc hB _) hB5))).mono ?_; rintro e w7 ⟨rfl, hB7⟩))
                    go_meet
                    exact ⟨_, rfl, HF2, bw_trans hB5 hB7⟩
                  have hn0 : (n : Int) ≤ 0 := by omega
                  have hp : preS ⟨k, n, nm⟩ = (⟨#[]⟩ : BA).data.toList := by rw [hpe, if_neg (by omega)]
                  have HF2 := FIN.out _ hp
                  by_cases e1' : k = 1
                  · have z1 : ((k : Int) == 1) = true := by simp [e1']
                    have hl0 : (nm.length : Int) ≤ 0 := by omega
                    clear hp hpe e1 e3 e13 en e1'
                    go_wp2_with fail
                    go_meet
                    exact ⟨_, rfl, Lib.hid (by have := HF2.out; rwa [show o1 ++ kw ++ (⟨#[]⟩ : BA) = o1 ++ kw from ByteArray.ext (by simp [ByteArray.data_append])] at this), hB5⟩
                  · have z1 : ((k : Int) == 1) = false := by simp; omega
                    clear hp hpe e1 e3 e13 en e1'
                    go_wp2_with fail
                    go_meet
                    exact ⟨_, rfl, Lib.hid (by have := HF2.out; rwa [show o1 ++ kw ++ (⟨#[]⟩ : BA) = o1 ++ kw from ByteArray.ext (by simp [ByteArray.data_append])] at this), hB5⟩
                case rest =>
                  obtain ⟨o3, rfl, H3, nB3⟩ := hcut
                  have nX := blk_below tx nB3
                  have nB := bw_trans (below_alloc hB _) nB3
                  have nC := Lib.hid (Kd.C_below (Kd.C_alloc H4.out (.cells #[.int .i64 k, .int .i64 n, .slice A3 nm.length c3] 43 (0, 0))) nB3)
                  clear xa xb xc xx xy xz xl tx
                  have xa := blk_cell nX 0; have xb := blk_cell nX 1; have xc := blk_cell nX 2; have xx := blk_frozen nX 0; have xy := blk_frozen nX 1; have xz := blk_frozen nX 2; have xl := blk_lt nX
                  have NX := Lib.hid nX
                  have hl64 : nm.length ≤ 64 := hn3
                  clear nX
                  go_wp2_with fail
                  go_loopg [5, 93] nm.length (fun m v5 v93 wq => ∃ (j : Nat) (o4 : BA), m = nm.length - j ∧ j ≤ nm.length ∧ v93 = .int .i64 j ∧ v5 = .string o4 ∧ Hid (o4.data.toList ++ (blkB (nm.drop j) ++ rs) = printL l) ∧ wq = wc)
                  case atStart => exact ⟨0, o3, rfl, Nat.zero_le _, rfl, rfl, H3, rfl⟩
                  case round =>
                    obtain ⟨j, o4, hm4, hj, rfl, rfl, H5, rfl⟩ := hrel
                    by_cases hjl : j < nm.length
                    · obtain ⟨b3, o3', hA3, hcell⟩ := strs_plain nC.out (by omega)
                      subst hA3
                      have hcj := hcell j hjl
                      have hd := List.drop_eq_getElem_cons hjl
                      have hgd : nm.getD j ByteArray.empty = nm[j] := by rw [List.getD_eq_getElem?_getD, List.getElem?_eq_getElem hjl]; rfl
                      rw [hgd] at hcj
                      obtain ⟨y, hy⟩ : ∃ y, nm[j] = y := ⟨_, rfl⟩
                      rw [hy] at hcj hd
                      have h8 := H5.out
                      rw [hd, blkB_cons] at h8
                      have hsz := osz HR.out h8
                      simp only [List.cons_append, List.length_cons, List.length_append] at hsz
                      have hyl : y.data.toList.length = y.size := rfl
                      have hs2 : 1 + y.size ≤ 9223372036854775807 := by omega
                      have hs3 : o4.size + (1 + y.size) ≤ 9223372036854775807 := by omega
                      have H8 := Lib.hid h8
                      have hjl' : (j : Int) < nm.length := by omega
                      clear hcell hd hgd hy h8 hsz hyl
                      go_wp2_with fail
                      go_roundg (nm.length - (j + 1))
                      case rel => exact ⟨j + 1, o4 ++ (⟨#[32]⟩ ++ y), rfl, by omega, by simp, rfl, Lib.hid (by rw [← H8.out, app_list, app_list]; simp), rfl⟩
                      case measure => omega
                    · have e : j = nm.length := by omega
                      have hs := H5.out
                      rw [e, List.drop_length] at hs
                      have HS : Hid (o4.data.toList ++ rs = printL l) := Lib.hid (by simpa [blkB] using hs)
                      have hjl' : (nm.length : Int) ≤ j := by omega
                      clear hs
                      go_wp2_with fail
                      go_meet
                      exact ⟨o4, rfl, HS, nB⟩
          case rest =>
            obtain ⟨o2, rfl, H2, nB⟩ := hcut
            have HO2 : Hid (o2.data.toList ++ restB l (i + 1) = printL l) := Lib.hid (by rw [hrs2]; exact H2.out)
            clear hrs2 tx xa xb xc xx xy xz xl
            go_wp2_with fail
            go_roundg (l.length - (i + 1))
            case rel => exact ⟨i + 1, o2, rfl, by omega, by simp, rfl, HO2, nB⟩
            case measure => omega
        · have e : i = l.length := by omega
          have hs := HO.out
          rw [e, rest_end, List.append_nil] at hs
          have HS : Hid (o = printS l) := Lib.hid (by rw [printS, ← hs]; rfl)
          have hlt' : (l.length : Int) ≤ i := by omega
          clear hs
          go_wp2_with fail
          go_meet
          exact ⟨by rw [HS.out], hB⟩
    case rest =>
      obtain ⟨rfl, hB⟩ := hcut
      go_wp2_with fail
      (try simp only [Exit.inBlock, Exit.then]); refine bodyPost_ret (results_list (rs := [.tmp _, .tmp _]) rfl (by simp) (.tmp (.tmp .nil))) rfl ?_
      rw [HE.out, HP.out]
      exact ⟨rfl, hB⟩
  · have HE : Hid (rightE l ≠ 0) := Lib.hid (fun e => hr (rightE_zero.1 e))
    have HP : Hid (printE l = ByteArray.empty) := Lib.hid (by rw [printE, if_neg hr])
    have hne : (rightE l != 0) = true := by rw [bne_iff_ne]; exact HE.out
    clear hr
    go_wp2_with (go_at_call 21; go_must (refine (Right_calls l A c _ HC.out HSZ.out).mono ?_; rintro e w1 ⟨rfl, hB1⟩))
    (try simp only [Exit.inBlock, Exit.then]); refine bodyPost_ret (results_list (rs := [.tmp _, .tmp _]) rfl (by simp) (.tmp (.tmp .nil))) rfl ?_
    rw [HP.out]
    exact ⟨rfl, hB1⟩
end Go.Proofs.YtjcnjpljngabfaaGreatDoor
