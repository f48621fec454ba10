import Derived.Test.YtjcnjpljngabfaaGreatDoorT1
namespace Go.Proofs.YtjcnjpljngabfaaGreatDoor
open Go.RowKit Go.Proofs.YtjcnjpljngabfaaGreatDoorW.PrintWords
set_option linter.unusedVariables false
theorem rows_plain {w : World} {A : Option Addr} {n : Nat} {xs : List (List BA)} (h : Kd.C (Kd.slice 9 Kd.string) w A n xs) (hp : 0 < n) : ∃ b off, A = some ⟨b, off, none⟩ ∧ ∀ j (hj : j < xs.length), ∃ A c, w.cell? ⟨b, off + j, none⟩ = some (.slice A xs[j].length c) ∧ xs[j].length ≤ c ∧ Kd.string.C w A xs[j].length xs[j] := by
  obtain ⟨hl, _, hc⟩ := h
  obtain ⟨ad, rfl, hr⟩ := hc hp
  have hat : ∀ j (hj : j < xs.length), ∃ A c, w.cell? (ad.add j) = some (.slice A xs[j].length c) ∧ xs[j].length ≤ c ∧ Kd.string.C w A xs[j].length xs[j] := by
    intro j hj
    obtain ⟨cs, _, ⟨A, c, rfl, h3, h4⟩, hu⟩ := hr j xs[j] (List.getElem?_eq_getElem hj)
    have := hu 0 _ rfl
    rw [show j * (Kd.slice 9 Kd.string).sz + 0 = j from Nat.mul_one j] at this
    exact ⟨A, c, this, h3, h4⟩
  obtain ⟨b, off, sp⟩ := ad
  have hs : sp = none := by
    obtain ⟨_, _, h0, _⟩ := hat 0 (by omega)
    exact cell_plain h0
  subst hs
  refine ⟨b, off, rfl, fun j hj => ?_⟩
  obtain ⟨A, c, h0, h1, h2⟩ := hat j hj
  rw [add_at] at h0
  exact ⟨A, c, h0, h1, h2⟩
set_option maxRecDepth 100000 in
set_option maxHeartbeats 4000000 in
theorem SameTables_true (Ah1 Ah2 Ar1 Ar2 : Option Addr) (ch1 ch2 cr1 cr2 : Nat) (hd : List BA) (rows : List (List BA)) (w : World) (hH1 : Kd.string.C w Ah1 hd.length hd) (hH2 : Kd.string.C w Ah2 hd.length hd) (hR1 : Kd.C (Kd.slice 9 Kd.string) w Ar1 rows.length rows) (hR2 : Kd.C (Kd.slice 9 Kd.string) w Ar2 rows.length rows) :
    Calls Tryz.prog 35 #[.agg #[.slice Ah1 hd.length ch1, .slice Ar1 rows.length cr1], .agg #[.slice Ah2 hd.length ch2, .slice Ar2 rows.length cr2]] w fun e w' => e = .returned (.bool true) ∧ Below w.heap.size w w' := by
  have hmh := Kd.C_max hH1
  have hmr := Kd.C_max hR1
  have H1 := Lib.hid hH1
  have H2 := Lib.hid hH2
  have R1 := Lib.hid hR1
  have R2 := Lib.hid hR2
  have t0 := blk_alloc (blk_new w (.cells #[.slice Ah1 hd.length ch1, .slice Ar1 rows.length cr1] 77 (0, 0))) (.cells #[.slice Ah2 hd.length ch2, .slice Ar2 rows.length cr2] 77 (0, 0))
  have t1 := blk_newn (n := w.heap.size + 1) (w.alloc (.cells #[.slice Ah1 hd.length ch1, .slice Ar1 rows.length cr1] 77 (0, 0))) (.cells #[.slice Ah2 hd.length ch2, .slice Ar2 rows.length cr2] 77 (0, 0)) (by simp)
  have hB0 : Below w.heap.size w ((w.alloc (.cells #[.slice Ah1 hd.length ch1, .slice Ar1 rows.length cr1] 77 (0, 0))).alloc (.cells #[.slice Ah2 hd.length ch2, .slice Ar2 rows.length cr2] 77 (0, 0))) := (by repeat (first | assumption | (with_reducible apply below_alloc) | (with_reducible apply pw_below_drewN) | (with_reducible apply below_drew) | (with_reducible apply Below.refl) | (with_reducible refine bw_set ?_ (by first | (dsimp only; omega) | omega | (simp; done) | (simp; omega)) _)))
  have HB0 := Lib.hid hB0
  have T0 := Lib.hid t0
  have T1 := Lib.hid t1
  have pa := blk_cell t0 0; have pb := blk_cell t0 1; have px := blk_frozen t0 0; have py := blk_frozen t0 1; have pl := blk_lt t0
  have qa := blk_cell t1 0; have qb := blk_cell t1 1; have qx := blk_frozen t1 0; have qy := blk_frozen t1 1; have ql := blk_lt t1
  clear hH1 hH2 hR1 hR2 hB0 t0 t1
  go_enter Tryz.func35, Tryz.ntmps35
  go_wp2_with fail
  generalize (w.alloc (.cells #[.slice Ah1 hd.length ch1, .slice Ar1 rows.length cr1] 77 (0, 0))).alloc (.cells #[.slice Ah2 hd.length ch2, .slice Ar2 rows.length cr2] 77 (0, 0)) = W0 at HB0 T0 T1 pa pb px py pl qa qb qx qy ql
  go_loopg [5] hd.length (fun m v wr => ∃ i : Nat, m = hd.length - i ∧ i ≤ hd.length ∧ v = .int .i64 i ∧ Below W0.heap.size W0 wr)
  case atStart => exact ⟨0, rfl, Nat.zero_le _, rfl, Below.refl _ _⟩
  case round =>
    obtain ⟨i, hm, hi, rfl, hB⟩ := hrel
    have u0 := blk_below T0.out hB
    have u1 := blk_below T1.out hB
    clear pa pb px py pl qa qb qx qy ql
    have pa := blk_cell u0 0; have pb := blk_cell u0 1; have px := blk_frozen u0 0; have py := blk_frozen u0 1; have pl := blk_lt u0
    have qa := blk_cell u1 0; have qb := blk_cell u1 1; have qx := blk_frozen u1 0; have qy := blk_frozen u1 1; have ql := blk_lt u1
    clear u0 u1
    have HB := Lib.hid hB
    have HM := Lib.hid hm
    by_cases hlt : i < hd.length
    · obtain ⟨b1, o1, rfl, hs1⟩ := strs_plain H1.out (by omega)
      obtain ⟨b2, o2, rfl, hs2⟩ := strs_plain H2.out (by omega)
      have s1 := pw_cell_below (bw_trans HB0.out hB) (hs1 i hlt)
      have s2 := pw_cell_below (bw_trans HB0.out hB) (hs2 i hlt)
      have hlt' : (i : Int) < hd.length := by omega
      have hic : (i : Int) ≤ 9223372036854775806 := by omega
      clear hs1 hs2 hm hB hi hlt
      go_wp2_with fail
      go_region
      go_wp2_with fail
      go_roundg (hd.length - (i + 1))
      case rel => exact ⟨i + 1, rfl, by omega, by go_num, bw_trans HB.out (by repeat (first | assumption | (with_reducible apply below_alloc) | (with_reducible apply pw_below_drewN) | (with_reducible apply below_drew) | (with_reducible apply Below.refl) | (with_reducible refine bw_set ?_ (by first | (dsimp only; omega) | omega | (simp; done) | (simp; omega)) _)))⟩
      case measure => have := HM.out; omega
    · have hge : (hd.length : Int) ≤ i := by omega
      clear hm hB hi hlt
      go_wp2_with fail
      go_loopg [6] rows.length (fun m v wq => ∃ i : Nat, m = rows.length - i ∧ i ≤ rows.length ∧ v = .int .i64 i ∧ Below W0.heap.size W0 wq)
      case atStart => exact ⟨0, rfl, Nat.zero_le _, rfl, HB.out⟩
      case round =>
        clear hge HM HB
        obtain ⟨k, hm, hk, rfl, hB⟩ := hrel
        have u0 := blk_below T0.out hB
        have u1 := blk_below T1.out hB
        clear pa pb px py pl qa qb qx qy ql
        have pa := blk_cell u0 0; have pb := blk_cell u0 1; have px := blk_frozen u0 0; have py := blk_frozen u0 1; have pl := blk_lt u0
        have qa := blk_cell u1 0; have qb := blk_cell u1 1; have qx := blk_frozen u1 0; have qy := blk_frozen u1 1; have ql := blk_lt u1
        clear u0 u1
        have HB := Lib.hid hB
        have HM := Lib.hid hm
        by_cases hlt : k < rows.length
        · obtain ⟨b1, o1, rfl, hs1⟩ := rows_plain R1.out (by omega)
          obtain ⟨b2, o2, rfl, hs2⟩ := rows_plain R2.out (by omega)
          obtain ⟨A3, c3, j3, l3, C3⟩ := hs1 k hlt
          obtain ⟨A4, c4, j4, l4, C4⟩ := hs2 k hlt
          have k3 := pw_cell_below (bw_trans HB0.out hB) j3
          have k4 := pw_cell_below (bw_trans HB0.out hB) j4
          obtain ⟨x, hx⟩ : ∃ x, rows[k] = x := ⟨_, rfl⟩
          rw [hx] at k3 k4 C3 C4
          have D3 := Lib.hid C3
          have D4 := Lib.hid C4
          have hmx := Kd.C_max C3
          have hlt' : (k : Int) < rows.length := by omega
          have hkc : (k : Int) ≤ 9223372036854775806 := by omega
          clear hs1 hs2 j3 j4 l3 l4 hm hB hk C3 C4 hx; clear hlt
          go_upto_block 3 with fail
          go_cut [] (fun wx => Below wr.heap.size wr wx)
          case first =>
            go_wp2_with fail
            go_region
            go_wp2_with fail
            go_loopg [7] x.length (fun m v wq => ∃ j : Nat, m = x.length - j ∧ j ≤ x.length ∧ v = .int .i64 j ∧ Below wr.heap.size wr wq)
            case atStart => exact ⟨0, rfl, Nat.zero_le _, rfl, (by repeat (first | assumption | (with_reducible apply below_alloc) | (with_reducible apply pw_below_drewN) | (with_reducible apply below_drew) | (with_reducible apply Below.refl) | (with_reducible refine bw_set ?_ (by first | (dsimp only; omega) | omega | (simp; done) | (simp; omega)) _)))⟩
            case round =>
              obtain ⟨j, hj, hjl, rfl, hBq⟩ := hrel
              have u0 := blk_below (blk_below T0.out HB.out) hBq
              have u1 := blk_below (blk_below T1.out HB.out) hBq
              clear pa pb px py pl qa qb qx qy ql
              have pa := blk_cell u0 0; have pb := blk_cell u0 1; have px := blk_frozen u0 0; have py := blk_frozen u0 1; have pl := blk_lt u0
              have qa := blk_cell u1 0; have qb := blk_cell u1 1; have qx := blk_frozen u1 0; have qy := blk_frozen u1 1; have ql := blk_lt u1
              clear u0 u1
              have k3' := pw_cell_below hBq k3
              have k4' := pw_cell_below hBq k4
              have HJ := Lib.hid hj
              have HBQ := Lib.hid hBq
              by_cases hjt : j < x.length
              · obtain ⟨g1, p1, rfl, hc1⟩ := strs_plain D3.out (by omega)
                obtain ⟨g2, p2, rfl, hc2⟩ := strs_plain D4.out (by omega)
                have s1 := pw_cell_below (bw_trans (bw_trans HB0.out HB.out) hBq) (hc1 j hjt)
                have s2 := pw_cell_below (bw_trans (bw_trans HB0.out HB.out) hBq) (hc2 j hjt)
                have hjt' : (j : Int) < x.length := by omega
                have hjc : (j : Int) ≤ 9223372036854775806 := by omega
                clear hc1 hc2 hj hBq hjl hjt
                go_wp2_with fail
                go_region
                go_wp2_with fail
                go_roundg (x.length - (j + 1))
                case rel => exact ⟨j + 1, rfl, by omega, by go_num, bw_trans HBQ.out (by repeat (first | assumption | (with_reducible apply below_alloc) | (with_reducible apply pw_below_drewN) | (with_reducible apply below_drew) | (with_reducible apply Below.refl) | (with_reducible refine bw_set ?_ (by first | (dsimp only; omega) | omega | (simp; done) | (simp; omega)) _)))⟩
                case measure => have := HJ.out; omega
              · have hge : (x.length : Int) ≤ j := by omega
                clear hj hBq hjl hjt
                go_wp2_with fail
                go_meet
                exact HBQ.out
          case rest =>
            have HC := Lib.hid hcut
            clear hcut
            go_wp2_with fail
            go_roundg (rows.length - (k + 1))
            case rel => exact ⟨k + 1, rfl, by omega, by go_num, bw_trans HB.out HC.out⟩
            case measure => have := HM.out; omega
        · have hge : (rows.length : Int) ≤ k := by omega
          clear hm hB hk hlt
          go_wp2_with fail
          go_ret
          exact ⟨rfl, bw_trans HB0.out (by repeat (first | assumption | (with_reducible apply below_alloc) | (with_reducible apply pw_below_drewN) | (with_reducible apply below_drew) | (with_reducible apply Below.refl) | (with_reducible refine bw_set ?_ (by first | (dsimp only; omega) | omega | (simp; done) | (simp; omega)) _)))⟩
end Go.Proofs.YtjcnjpljngabfaaGreatDoor
