import Derived.Test.YtjcnjpljngabfaaGreatDoorB0
import Derived.Test.YtjcnjpljngabfaaGreatDoorShelf
import Derived.Shelf.Abstract
namespace Go.Proofs.YtjcnjpljngabfaaGreatDoor
open Go.RowKit Go.Proofs.YtjcnjpljngabfaaGreatDoorW.PrintWords
set_option linter.unusedVariables false

theorem digit_calls (c : UInt8) (w : World) :
    Calls Tryz.prog 293 #[.int .u8 c.toNat] w fun e w' => e = .returned (.bool (digitB c)) ∧ w = w' := by
  go_enter Tryz.func293, Tryz.ntmps293
  go_wp2
  all_goals go_ret
  all_goals refine ⟨congrArg (fun b => Ending.returned (.bool b)) ?_, rfl⟩
  all_goals rw [Bool.eq_iff_iff]; simp [digitB]; omega
theorem name_ix (c : UInt8) : 0 ≤ Lib.indexByte [95, 46, 45, 91, 93] c ↔ c.toNat = 95 ∨ c.toNat = 46 ∨ c.toNat = 45 ∨ c.toNat = 91 ∨ c.toNat = 93 := by
  revert c; exact byte_cases (by decide +kernel)
set_option maxHeartbeats 1000000 in
theorem nameByte_calls (c : UInt8) (w : World) :
    Calls Tryz.prog 103 #[.int .u8 c.toNat] w fun e w' => e = .returned (.bool (partB c)) ∧ w = w' := by
  go_enter Tryz.func103, Tryz.ntmps103
  go_wp2_with (go_at_call 125; refine (Tryz.strings_IndexByte _ _ _).mono ?_; rintro e w' ⟨rfl, rfl⟩)
  all_goals go_ret
  all_goals refine ⟨congrArg (fun b => Ending.returned (.bool b)) ?_, rfl⟩
  all_goals rw [Bool.eq_iff_iff]; simp [partB, letterB, digitB, name_ix]; omega
/-- what a look at bytes says: the closures of this package that are handed to 'run' -/
def Looks (v : Value) (p : UInt8 → Bool) : Prop := ∃ f, v = .func (.func f) #[] #[] ∧ (∀ args w, (callFunc f args).run Tryz.prog w = .ok (.enter f args) w) ∧ ∀ (c : UInt8) (w : World), Calls Tryz.prog f #[.int .u8 c.toNat] w fun e w' => e = .returned (.bool (p c)) ∧ w = w'
set_option maxRecDepth 100000 in
set_option maxHeartbeats 1000000 in
theorem run_calls (s : BA) (i : Nat) (v : Value) (p : UInt8 → Bool) (hp : Looks v p) (hi : i ≤ s.size) (hs : s.size ≤ 140737488351232) (w : World) :
    Calls Tryz.prog 102 #[.string s, .int .i64 i, v] w fun e w' => e = .returned (.int .i64 (scan p s i : Nat)) ∧ w = w' := by
  obtain ⟨f, rfl, eg, hf⟩ := hp
  have HF := Lib.hid hf
  clear hf
  go_enter Tryz.func102, Tryz.ntmps102
  go_wp2_with fail
  go_loopg [1] (s.size - i) (fun n t wr => ∃ k : Nat, n = s.size - k ∧ k ≤ s.size ∧ t = .int .i64 k ∧ Hid (scan p s k = scan p s i) ∧ wr = w)
  case atStart => exact ⟨i, rfl, hi, rfl, rfl, rfl⟩
  case round =>
    obtain ⟨k, hn, hk, rfl, HS, rfl⟩ := hrel
    by_cases hlt : k < s.size
    · have hc := HF.out s[k] wr
      cases hb : p s[k] with
      | true =>
        rw [hb] at hc
        go_wp2_with ((with_reducible refine Calls.mono hc ?_); rintro e w' ⟨rfl, rfl⟩)
        go_roundg (s.size - (k + 1))
        case rel => exact ⟨k + 1, rfl, by omega, rfl, (scan_step hlt hb).trans HS, rfl⟩
        case measure => omega
      | false =>
        rw [hb] at hc
        go_wp2_with ((with_reducible refine Calls.mono hc ?_); rintro e w' ⟨rfl, rfl⟩)
        go_ret
        exact ⟨by rw [← HS.out, scan_stop hlt hb]; rfl, rfl⟩
    · go_wp2_with fail
      go_ret
      exact ⟨by rw [← HS.out, scan_end (by omega)]; rfl, rfl⟩
theorem looks_nameByte : Looks (.func (.func 103) #[] #[]) partB := ⟨_, rfl, Go.Proofs.enters_of Tryz.func103 (by kernel_rfl) rfl, nameByte_calls⟩
theorem looks_digit : Looks (.func (.func 293) #[] #[]) digitB := ⟨_, rfl, Go.Proofs.enters_of Tryz.func293 (by kernel_rfl) rfl, digit_calls⟩
theorem letter_or (c : UInt8) : letterB c = (decide ((c.toNat : Int) = 95) || (decide (97 ≤ bits BinOp.or IntKind.u8 c.toNat 32) && decide (bits BinOp.or IntKind.u8 c.toNat 32 ≤ 122))) := by
  revert c; exact byte_cases (by decide +kernel)
set_option maxRecDepth 100000 in
set_option maxHeartbeats 1000000 in
theorem Name_calls (s : BA) (hs : s.size ≤ 140737488351232) (w : World) :
    Calls Tryz.prog 78 #[.string s] w fun e w' => e = .returned (.bool (isName s)) ∧ w = w' := by
  have hr := run_calls s 0 _ partB looks_nameByte (Nat.zero_le _) hs
  have HR := Lib.hid hr
  clear hr
  by_cases a : s.size < 1
  · go_enter Tryz.func78, Tryz.ntmps78
    go_wp2_with fail
    go_ret
    exact ⟨by rw [isName_no (.inl a)]; rfl, rfl⟩
  by_cases b : 64 < s.size
  · go_enter Tryz.func78, Tryz.ntmps78
    go_wp2_with fail
    go_ret
    exact ⟨by rw [isName_no (.inr (.inl b))]; rfl, rfl⟩
  by_cases c : scan partB s 0 = s.size
  · have HC := Lib.hid c
    have c' : ((scan partB s 0 : Int) != s.size) = false := by simp [c]
    clear c
    go_enter Tryz.func78, Tryz.ntmps78
    go_wp2_with (go_at_call 102; refine (HR.out _).mono ?_; rintro e w' ⟨rfl, rfl⟩)
    all_goals go_ret
    all_goals refine ⟨congrArg (fun b => Ending.returned (.bool b)) ?_, rfl⟩
    all_goals rw [isName_yes (by omega) (by omega) HC.out, letter_or, Bool.eq_iff_iff]
    all_goals first | (simp [*]; done) | (simp [*]; omega)
  · have c' : ((scan partB s 0 : Int) != s.size) = true := by rw [bne_iff_ne]; omega
    go_enter Tryz.func78, Tryz.ntmps78
    go_wp2_with (go_at_call 102; refine (HR.out _).mono ?_; rintro e w' ⟨rfl, rfl⟩)
    go_ret
    exact ⟨by rw [isName_no (.inr (.inr c))]; rfl, rfl⟩
end Go.Proofs.YtjcnjpljngabfaaGreatDoor
