import Derived.Test.YtjcnjpljngabfaaGreatDoorK14
namespace Go.Proofs.YtjcnjpljngabfaaGreatDoor
open Go.RowKit Go.Proofs.YtjcnjpljngabfaaGreatDoorW.PrintWords
set_option linter.unusedVariables false
/-! PipeAgain -/
theorem right_sizes {l : List Stg} (h : rightS l = true) : ∀ x ∈ l, ∀ y ∈ x.names, y.size ≤ 140737488351232 := by
  intro x hx y hy
  have hg := right_good l none (by rw [rightS, Bool.and_eq_true] at h; exact h.2) x hx
  obtain ⟨_, _, _, hn4⟩ := good_max hg
  have := hn4 y hy
  omega
theorem printE_right {l : List Stg} (h : rightS l = true) : printE l = printS l ∧ rightE l = 0 ∧ (printS l).size ≤ 50000 := by
  refine ⟨by rw [printE, if_pos h], rightE_zero.2 h, ?_⟩
  have h1 := print_len h
  have h2 : (printS l).size = (printL l).length := by rw [printS]; simp [tx, ByteArray.size]
  omega
set_option maxRecDepth 100000 in
set_option maxHeartbeats 2000000 in
theorem Again_calls (s : BA) (hs : s.size ≤ 140737488351232) (w : World) (T : Tab10 w) :
    Calls Tryz.prog 7 #[.string s] w fun e w' => e = .returned (.bool true) ∧ Below w.heap.size w w' := by
  have HK := Lib.hid (known_calls w T)
  have HT := Lib.hid T
  have hat := parseS_at s
  clear T
  go_enter Tryz.func7, Tryz.ntmps7
  cases hp : parseS spanOf s with
  | many a =>
    rw [hp] at hat
    have hat : a ≤ s.size := hat
    have hat' : (a : Int) ≤ s.size := by omega
    have HPS := Lib.hid hp
    clear hp hat
    go_wp2_with (first | (go_at_call 10; go_must (refine HK.out.mono ?_; rintro e w1 ⟨rfl, hB1⟩)) | (go_at_call 12; go_must (refine (Parse_calls s hs _).mono ?_; rintro e w2 ⟨hP2, hB2⟩; rw [HPS.out] at hP2; obtain rfl := hP2)))
    go_ret
    exact ⟨rfl, bw_trans hB1 hB2⟩
  | stage a =>
    rw [hp] at hat
    have hat : a ≤ s.size := hat
    have hat' : (a : Int) ≤ s.size := by omega
    have HPS := Lib.hid hp
    clear hp hat
    go_wp2_with (first | (go_at_call 10; go_must (refine HK.out.mono ?_; rintro e w1 ⟨rfl, hB1⟩)) | (go_at_call 12; go_must (refine (Parse_calls s hs _).mono ?_; rintro e w2 ⟨hP2, hB2⟩; rw [HPS.out] at hP2; obtain rfl := hP2)))
    go_ret
    exact ⟨rfl, bw_trans hB1 hB2⟩
  | ok l =>
    have hr := parse_right hp
    have HSZ := Lib.hid (right_sizes hr)
    have HPE := Lib.hid (printE_right hr)
    have HPP := Lib.hid (parse_print hr)
    have HPS := Lib.hid hp
    clear hp hat hr
    go_upto_region 5 with (first | (go_at_call 10; go_must (refine HK.out.mono ?_; rintro e w1 ⟨rfl, hB1⟩)) | (go_at_call 12; go_must (refine (Parse_calls s hs _).mono ?_; rintro e w2 ⟨hP2, hB2⟩; rw [HPS.out] at hP2; obtain ⟨v2, ps, rfl, hps, hO⟩ := hP2; obtain ⟨A2, c2, rfl, hc2, hC2⟩ := hO.reads; rw [hps] at hC2)))
    have hl : ps.length = l.length := by have := congrArg List.length hps; simpa using this
    rw [hl] at hC2 ⊢
    have B2 := Lib.hid (bw_trans hB1 hB2)
    have C2 := Lib.hid hC2
    clear hps hO hc2 hC2 hl hB1 hB2
    have HPR : Hid (∀ W, Below w2.heap.size w2 W → Calls Tryz.prog 20 #[.slice A2 l.length c2] W fun e w' => e = .returned (.tuple #[.string (printS l), .int .i64 0]) ∧ Below W.heap.size W w') := Lib.hid (fun W hB => by
      have h := Print_calls l A2 c2 W (Kd.C_below C2.out hB) HSZ.out (HT.out.below (bw_trans B2.out hB))
      rw [HPE.out.1, HPE.out.2.1] at h
      exact h)
    have HRI : Hid (∀ W, Below w2.heap.size w2 W → Calls Tryz.prog 21 #[.slice A2 l.length c2] W fun e w' => e = .returned (.int .i64 0) ∧ Below W.heap.size W w') := Lib.hid (fun W hB => by
      have h := Right_calls l A2 c2 W (Kd.C_below C2.out hB) HSZ.out
      rw [HPE.out.2.1] at h
      exact h)
    go_upto_region 7 with (first | (go_at_call 20; go_must (refine (HPR.out _ (Below.refl _ _)).mono ?_; rintro e w3 ⟨rfl, hB3⟩)) | (go_at_call 12; go_must (refine (Parse_calls (printS l) (by have := HPE.out.2.2; omega) _).mono ?_; rintro e w4 ⟨hP4, hB4⟩; rw [HPP.out] at hP4; obtain ⟨v4, ps4, rfl, hps4, hO4⟩ := hP4; obtain ⟨A4, c4, rfl, hc4, hC4⟩ := hO4.reads; rw [hps4] at hC4)))
    have hl : ps4.length = l.length := by have := congrArg List.length hps4; simpa using this
    rw [hl] at hC4 ⊢
    have B4 := Lib.hid (bw_trans hB3 hB4)
    have C4 := Lib.hid hC4
    clear hps4 hO4 hc4 hC4 hl hB3 hB4
    go_wp2_with (first | (go_at_call 13; go_must (refine (SameStages_true A4 A2 c4 c2 l _ C4.out (Kd.C_below C2.out B4.out)).mono ?_; rintro e w5 ⟨rfl, hB5⟩)) | (go_at_call 21; go_must (refine (HRI.out _ (bw_trans B4.out hB5)).mono ?_; rintro e w6 ⟨rfl, hB6⟩)))
    go_ret
    exact ⟨rfl, bw_trans (bw_trans (bw_trans B2.out B4.out) hB5) hB6⟩
end Go.Proofs.YtjcnjpljngabfaaGreatDoor
