import Derived.Test.YtjcnjpljngabfaaGreatDoorR2
import Derived.Test.YtjcnjpljngabfaaGreatDoorS9
import Derived.Test.YtjcnjpljngabfaaGreatDoorD3
namespace Go.Proofs.YtjcnjpljngabfaaGreatDoor
open Go.RowKit Go.Proofs.YtjcnjpljngabfaaGreatDoorW.PrintWords
set_option linter.unusedVariables false
/-! PipeBack -/
theorem ext_list (o : BA) (a b : Nat) : (o.extract a b).data.toList = (o.data.toList.take b).drop a := by simp [ByteArray.data_extract, List.drop_take]
theorem wide_bar {d o : List UInt8} {k : Nat} (hk : k < d.length) (h : d[k] = 124) (ho : o = d.take (k + 1) ++ wideL (d.drop (k + 1))) : o.take k ++ ([32, 32, 124, 32, 32] ++ o.drop (k + 1)) = d.take k ++ wideL (d.drop k) := by
  have hl : (d.take (k + 1)).length = k + 1 := by rw [List.length_take]; omega
  have h1 : o.take k = d.take k := by
    rw [ho, List.take_append_of_le_length (by omega), List.take_take, Nat.min_eq_left (by omega)]
  have h2 : o.drop (k + 1) = wideL (d.drop (k + 1)) := by
    rw [ho, List.drop_append_of_le_length (by omega), List.drop_eq_nil_iff.2 (by omega), List.nil_append]
  rw [h1, h2, List.drop_eq_getElem_cons hk, wideL_cons, h, wideC, if_pos rfl]
theorem wide_no {d o : List UInt8} {k : Nat} (hk : k < d.length) (h : d[k] ≠ 124) (ho : o = d.take (k + 1) ++ wideL (d.drop (k + 1))) : o = d.take k ++ wideL (d.drop k) := by
  rw [ho, List.drop_eq_getElem_cons hk, wideL_cons, wideC, if_neg h, List.take_succ_eq_append_getElem hk, List.append_assoc]
def WideP (l : List Stg) (v : Value) : Prop := ∃ o : BA, v = .string o ∧ Hid (parseS spanOf o = .ok l) ∧ o.size ≤ 300000
theorem print_data (l : List Stg) : (printS l).data.toList = printL l := by rw [printS, tx_list]
set_option maxRecDepth 100000 in
set_option maxHeartbeats 4000000 in
theorem Back_calls (raw : List RawS) (A : Option Addr) (c : Nat) (behind : Bool) (w : World) (hC : rawK.C w A raw.length raw) (hr : ∀ r ∈ raw, RawIn r) (T : Tab10 w) :
    Calls Tryz.prog 6 #[.slice A raw.length c, .bool behind] w fun e w' => e = .returned (.bool true) ∧ Below w.heap.size w w' := by
  have HK := Lib.hid (known_calls w T)
  have HT := Lib.hid T
  have HRW := Lib.hid hC
  have HRI := Lib.hid hr
  obtain ⟨l, hl⟩ : ∃ l, madeS raw = l := ⟨_, rfl⟩
  have hrt : rightS l = true := by rw [← hl]; exact madeS_right raw
  have HML := Lib.hid hl
  have HSZ := Lib.hid (right_sizes hrt)
  have HPE := Lib.hid (printE_right hrt)
  have HPP := Lib.hid (parse_print hrt)
  have HRT := Lib.hid hrt
  clear T hC hr hl hrt
  go_enter Tryz.func6, Tryz.ntmps6
  go_upto_region 3 with (first | (go_at_call 10; go_must (refine HK.out.mono ?_; rintro e w1 ⟨rfl, hB1⟩)) | (go_at_call 32; go_must (refine (Made_calls raw A c _ (Kd.C_below HRW.out hB1) HRI.out).mono ?_; rintro e w2 ⟨v2, ps, rfl, hps, hO, hB2⟩; rw [HML.out] at hps; obtain ⟨A2, c2, rfl, hc2, hC2⟩ := hO.reads; rw [hps] at hC2)))
  have hl : ps.length = l.length := by have := congrArg List.length hps; simpa using this
  rw [hl] at hC2 ⊢
  have B2 := Lib.hid (bw_trans hB1 hB2)
  have C2 := Lib.hid hC2
  clear hps hO hc2 hC2 hl hB1 hB2
  have HPR : Hid (∀ W, Below w2.heap.size w2 W → Calls Tryz.prog 20 #[.slice A2 l.length c2] W fun e w' => e = .returned (.tuple #[.string (printS l), .int .i64 0]) ∧ Below W.heap.size W w') := Lib.hid (fun W hB => by
    have h := Print_calls l A2 c2 W (Kd.C_below C2.out hB) HSZ.out (HT.out.below (bw_trans B2.out hB))
    rw [HPE.out.1, HPE.out.2.1] at h
    exact h)
  have HRI2 : Hid (∀ W, Below w2.heap.size w2 W → Calls Tryz.prog 21 #[.slice A2 l.length c2] W fun e w' => e = .returned (.int .i64 0) ∧ Below W.heap.size W w') := Lib.hid (fun W hB => by
    have h := Right_calls l A2 c2 W (Kd.C_below C2.out hB) HSZ.out
    rw [HPE.out.2.1] at h
    exact h)
  go_upto_region 5 with (first | (go_at_call 20; go_must (refine (HPR.out _ (Below.refl _ _)).mono ?_; rintro e w3 ⟨rfl, hB3⟩)) | (go_at_call 12; go_must (refine (Parse_calls (printS l) (by have := HPE.out.2.2; omega) _).mono ?_; rintro e w4 ⟨hP4, hB4⟩; rw [HPP.out] at hP4; obtain ⟨v4, ps4, rfl, hps4, hO4⟩ := hP4; obtain ⟨A4, c4, rfl, hc4, hC4⟩ := hO4.reads; rw [hps4] at hC4)))
  have hl : ps4.length = l.length := by have := congrArg List.length hps4; simpa using this
  rw [hl] at hC4 ⊢
  have B4 := Lib.hid (bw_trans hB3 hB4)
  have C4 := Lib.hid hC4
  clear hps4 hO4 hc4 hC4 hl hB3 hB4
  obtain ⟨s, hs⟩ : ∃ s, printS l = s := ⟨_, rfl⟩
  have HS := Lib.hid hs
  rw [hs] at HPR ⊢
  have hsz : s.size ≤ 50000 := by rw [← hs]; exact HPE.out.2.2
  have HSD : Hid (s.data.toList = printL l) := Lib.hid (by rw [← hs]; exact print_data l)
  clear hs HPR
  have q1 : (⟨#[32]⟩ : BA).size + s.size ≤ 9223372036854775807 := by have : (⟨#[32]⟩ : BA).size = 1 := rfl; omega
  have q2 : ((⟨#[32]⟩ : BA) ++ s).size + (⟨#[32, 32]⟩ : BA).size ≤ 9223372036854775807 := by rw [ByteArray.size_append]; have h1 : (⟨#[32]⟩ : BA).size = 1 := rfl; have h2 : (⟨#[32, 32]⟩ : BA).size = 2 := rfl; omega
  go_upto_if 36 with fail
  clear q1 q2
  go_cut [12] (fun v wx => WideP l v ∧ Below w4.heap.size w4 wx)
  case first =>
    cases behind with
    | false =>
      go_wp2_with fail
      go_meet
      refine ⟨⟨_, rfl, Lib.hid (parse_pad HRT.out _ ?_), ?_⟩, Below.refl _ _⟩
      · rw [app_list, app_list, HSD.out, List.append_assoc]
      · rw [ByteArray.size_append, ByteArray.size_append]; have h1 : (⟨#[32]⟩ : BA).size = 1 := rfl; have h2 : (⟨#[32, 32]⟩ : BA).size = 2 := rfl; omega
    | true =>
      go_wp2_with fail
      go_loopg [12, 13] s.size (fun m v12 v13 wr => ∃ (j : Nat) (o : BA), m = j ∧ j ≤ s.size ∧ v13 = .int .i64 ((j : Int) - 1) ∧ v12 = .string o ∧ Hid (o.data.toList = s.data.toList.take j ++ wideL (s.data.toList.drop j)) ∧ Below w4.heap.size w4 wr)
      case atStart => exact ⟨s.size, s, rfl, Nat.le_refl _, rfl, rfl, Lib.hid (by rw [List.take_of_length_le (by simp), List.drop_eq_nil_iff.2 (by simp)]; simp [wideL]), Below.refl _ _⟩
      case round =>
        obtain ⟨j, o, hm, hj, rfl, rfl, HO, hB⟩ := hrel
        cases j with
        | zero =>
          have e0 : ((0 : Nat) : Int) - 1 = -1 := by decide
          rw [e0]
          have HW : Hid (o.data.toList = wideL (printL l)) := Lib.hid (by rw [HO.out, HSD.out]; simp)
          clear e0 hm
          go_wp2_with fail
          go_meet
          refine ⟨⟨o, rfl, Lib.hid (parse_wide HRT.out o HW.out), ?_⟩, hB⟩
          have h1 := wideL_len (printL l)
          have h2 : o.size = o.data.toList.length := (data_length o).symm
          have h3 : s.size = s.data.toList.length := (data_length s).symm
          rw [HSD.out] at h3
          rw [HW.out] at h2
          omega
        | succ k =>
          have e0 : ((k + 1 : Nat) : Int) - 1 = k := by omega
          rw [e0]
          have hkl : k < s.data.toList.length := by have := data_length s; omega
          have hos : o.size = (k + 1) + (wideL (s.data.toList.drop (k + 1))).length := by
            have h2 : o.size = o.data.toList.length := (data_length o).symm
            rw [h2, HO.out, List.length_append, List.length_take]; omega
          have hwl := wideL_len (s.data.toList.drop (k + 1))
          have hdl : (s.data.toList.drop (k + 1)).length ≤ 50000 := by rw [List.length_drop]; have := data_length s; omega
          have hkk : k < s.size := by omega
          have hks : (k : Int) < s.size := by omega
          have hk1 : (k : Int) + 1 ≤ o.size := by omega
          have hk2 : (k : Int) ≤ o.size := by omega
          have hosz : o.size ≤ 300001 := by omega
          have hsk : s.data.toList[k]'hkl = s[k]'hkk := rfl
          have HKL := Lib.hid hkl
          have HM := Lib.hid hm
          have HB := Lib.hid hB
          by_cases hbar : s[k]'hkk = 124
          · have HS := Lib.hid (wide_bar hkl (by rw [hsk]; exact hbar) HO.out)
            have e1 : (((s[k]'hkk).toNat : Int) == 124) = true := by rw [hbar]; rfl
            have f1 : (o.extract 0 k).size + (⟨#[32, 32, 124, 32, 32]⟩ : BA).size ≤ 9223372036854775807 := by rw [ByteArray.size_extract]; have h1 : (⟨#[32, 32, 124, 32, 32]⟩ : BA).size = 5 := rfl; omega
            have f2 : (o.extract 0 k ++ (⟨#[32, 32, 124, 32, 32]⟩ : BA)).size + (o.extract (k + 1) o.size).size ≤ 9223372036854775807 := by rw [ByteArray.size_append, ByteArray.size_extract, ByteArray.size_extract]; have h1 : (⟨#[32, 32, 124, 32, 32]⟩ : BA).size = 5 := rfl; omega
            clear e0 hkl hos hwl hdl hsk hm hB hbar hj
            go_wp2_with fail
            go_region
            go_wp2_with fail
            go_roundg k
            case rel =>
              refine ⟨k, _, rfl, by omega, rfl, rfl, Lib.hid ?_, below_drew HB.out⟩
              have e9 : List.take o.size o.data.toList = o.data.toList := List.take_of_length_le (by rw [data_length]; exact Nat.le_refl _)
              rw [app_list, app_list, ext_list, ext_list, List.drop_zero, e9, List.append_assoc]
              exact HS.out
            case measure => have := HM.out; omega
          · have HS := Lib.hid (wide_no hkl (by rw [hsk]; exact hbar) HO.out)
            have e1 : (((s[k]'hkk).toNat : Int) == 124) = false := by
              rw [beq_eq_false_iff_ne]
              intro e
              apply hbar
              apply UInt8.toNat_inj.1
              have h9 : (124 : UInt8).toNat = 124 := rfl
              omega
            clear e0 hkl hos hwl hdl hsk hm hB hbar hj
            go_wp2_with fail
            go_roundg k
            case rel => exact ⟨k, o, rfl, by omega, rfl, rfl, HS, HB.out⟩
            case measure => have := HM.out; omega
  case rest =>
    obtain ⟨⟨o, rfl, HPO, hosz⟩, hBo⟩ := hcut
    have HSZO := Lib.hid hosz
    have HBo := Lib.hid (bw_trans B4.out hBo)
    have HBo4 := Lib.hid hBo
    clear hosz hBo
    go_upto_region 14 with (go_at_call 12; go_must (refine (Parse_calls o (by have := HSZO.out; omega) _).mono ?_; rintro e w5 ⟨hP5, hB5⟩; rw [HPO.out] at hP5; obtain ⟨v5, ps5, rfl, hps5, hO5⟩ := hP5; obtain ⟨A5, c5, rfl, hc5, hC5⟩ := hO5.reads; rw [hps5] at hC5))
    have hl5 : ps5.length = l.length := by have := congrArg List.length hps5; simpa using this
    rw [hl5] at hC5 ⊢
    have B5 := Lib.hid (bw_trans HBo.out hB5)
    have C5 := Lib.hid hC5
    have D4 := Lib.hid (Kd.C_below C4.out (bw_trans HBo4.out hB5))
    clear hps5 hO5 hc5 hC5 hl5 hB5
    go_upto_region 15 with (go_at_call 13; go_must (refine (SameStages_true A4 A2 c4 c2 l w5 D4.out (Kd.C_below C2.out B5.out)).mono ?_; rintro e w6 ⟨rfl, hB6⟩))
    have B6 := Lib.hid (bw_trans B5.out hB6)
    have D5 := Lib.hid (Kd.C_below C5.out hB6)
    clear hB6
    go_upto_region 16 with (go_at_call 13; go_must (refine (SameStages_true A5 A2 c5 c2 l w6 D5.out (Kd.C_below C2.out B6.out)).mono ?_; rintro e w7 ⟨rfl, hB7⟩))
    have B7 := Lib.hid (bw_trans B6.out hB7)
    clear hB7
    go_wp2_with (go_at_call 21; go_must (refine (HRI2.out _ B7.out).mono ?_; rintro e w8 ⟨rfl, hB8⟩))
    go_ret
    exact ⟨rfl, bw_trans (bw_trans B2.out B7.out) hB8⟩
end Go.Proofs.YtjcnjpljngabfaaGreatDoor
