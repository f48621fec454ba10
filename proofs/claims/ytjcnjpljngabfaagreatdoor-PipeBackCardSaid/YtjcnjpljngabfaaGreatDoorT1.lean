import Derived.Test.YtjcnjpljngabfaaGreatDoorP8
namespace Go.Proofs.YtjcnjpljngabfaaGreatDoor
open Go.RowKit Go.Proofs.YtjcnjpljngabfaaGreatDoorW.PrintWords
set_option linter.unusedVariables false
/-! SameStages, SameTables: of the same lists -/
set_option maxRecDepth 100000 in
set_option maxHeartbeats 4000000 in
theorem SameStages_true (A1 A2 : Option Addr) (c1 c2 : Nat) (l : List Stg) (w : World) (hC1 : stgK.C w A1 l.length l) (hC2 : stgK.C w A2 l.length l) :
    Calls Tryz.prog 13 #[.slice A1 l.length c1, .slice A2 l.length c2] w fun e w' => e = .returned (.bool true) ∧ Below w.heap.size w w' := by
  have hmx := Kd.C_max hC1
  have H1 := Lib.hid hC1
  have H2 := Lib.hid hC2
  clear hC1 hC2
  go_enter Tryz.func13, Tryz.ntmps13
  go_wp2_with fail
  go_loopg [5] l.length (fun m v wr => ∃ i : Nat, m = l.length - i ∧ i ≤ l.length ∧ v = .int .i64 i ∧ Below w.heap.size w wr)
  case atStart => exact ⟨0, rfl, Nat.zero_le _, rfl, Below.refl _ _⟩
  case round =>
    obtain ⟨i, hm, hi, rfl, hB⟩ := hrel
    by_cases hlt : i < l.length
    · obtain ⟨b1, o1, rfl, hs1⟩ := stgs_plain H1.out (by omega)
      obtain ⟨b2, o2, rfl, hs2⟩ := stgs_plain H2.out (by omega)
      have hs1 := (hs1 i hlt).below hB
      have hs2 := (hs2 i hlt).below hB
      obtain ⟨x, hx⟩ : ∃ x, l[i] = x := ⟨_, rfl⟩
      rw [hx] at hs1 hs2
      obtain ⟨k0, k1, A3, c3, k2, k3, k4⟩ := hs1
      obtain ⟨q0, q1, A4, c4, q2, q3, q4⟩ := hs2
      have K4 := Lib.hid k4
      have Q4 := Lib.hid q4
      have hmn := Kd.C_max k4
      have HM := Lib.hid hm
      have HB := Lib.hid hB
      have hlt' : (i : Int) < l.length := by omega
      have hic : (i : Int) ≤ 9223372036854775806 := by omega
      clear hx hm k4 q4 hlt hi hB
      go_upto_block 1 with fail
      go_cut [] (fun wx => Below w.heap.size w wx)
      case first =>
        go_wp2_with fail
        go_region
        go_wp2_with fail
        go_loopg [6] x.names.length (fun m v wq => ∃ j : Nat, m = x.names.length - j ∧ j ≤ x.names.length ∧ v = .int .i64 j ∧ Below wr.heap.size wr wq)
        case atStart => exact ⟨0, rfl, Nat.zero_le _, rfl, (by repeat (first | assumption | (with_reducible apply below_alloc) | (with_reducible apply pw_below_drewN) | (with_reducible apply below_drew) | (with_reducible apply Below.refl) | (with_reducible refine bw_set ?_ (by first | (dsimp only; omega) | omega | (simp; done) | (simp; omega)) _)))⟩
        case round =>
          obtain ⟨j, hj, hjl, rfl, hBq⟩ := hrel
          by_cases hjt : j < x.names.length
          · obtain ⟨g1, p1, rfl, hc1⟩ := strs_plain K4.out (by omega)
            obtain ⟨g2, p2, rfl, hc2⟩ := strs_plain Q4.out (by omega)
            have k0' := pw_cell_below hBq k2
            have q0' := pw_cell_below hBq q2
            have s1 := pw_cell_below hBq (hc1 j hjt)
            have s2 := pw_cell_below hBq (hc2 j hjt)
            have HJ := Lib.hid hj
            have HBQ := Lib.hid hBq
            have hjt' : (j : Int) < x.names.length := by omega
            have hjc : (j : Int) ≤ 9223372036854775806 := by omega
            clear hc1 hc2 hj hBq hjl hjt
            go_wp2_with fail
            go_region
            go_wp2_with fail
            go_roundg (x.names.length - (j + 1))
            case rel => exact ⟨j + 1, rfl, by omega, by go_num, bw_trans HBQ.out (by repeat (first | assumption | (with_reducible apply below_alloc) | (with_reducible apply pw_below_drewN) | (with_reducible apply below_drew) | (with_reducible apply Below.refl) | (with_reducible refine bw_set ?_ (by first | (dsimp only; omega) | omega | (simp; done) | (simp; omega)) _)))⟩
            case measure => have := HJ.out; omega
          · have hge : (x.names.length : Int) ≤ j := by omega
            have k0' := pw_cell_below hBq k2
            have HBQ := Lib.hid hBq
            clear hj hBq hjl hjt
            go_wp2_with fail
            go_meet
            exact bw_trans HB.out HBQ.out
      case rest =>
        have HC := Lib.hid hcut
        clear hcut
        go_wp2_with fail
        go_roundg (l.length - (i + 1))
        case rel => exact ⟨i + 1, rfl, by omega, by go_num, HC.out⟩
        case measure => have := HM.out; omega
    · have hge : (l.length : Int) ≤ i := by omega
      have HB := Lib.hid hB
      clear hm hi hlt hB
      go_wp2_with fail
      go_ret
      exact ⟨rfl, HB.out⟩
end Go.Proofs.YtjcnjpljngabfaaGreatDoor
