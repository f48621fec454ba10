import Derived.Test.YtjcnjpljngabfaaGreatDoorK1
namespace Go.Proofs.YtjcnjpljngabfaaGreatDoor
open Go.RowKit Go.Proofs.YtjcnjpljngabfaaGreatDoorW.PrintWords
set_option linter.unusedVariables false
/-! fields.Get at the lines b=x, b=y -/
theorem below_weaken' {A B : Nat} {a b : World} (h : B ≤ A) (k : Below A a b) : Below B a b := ⟨k.os, k.tape, k.output, k.size, fun i hi => k.block i (Nat.lt_of_lt_of_le hi h)⟩
def valB (c : UInt8) : Bool := decide (c.toNat ≠ 32) && decide (c.toNat ≠ 9) && decide (c.toNat ≠ 44) && decide (c.toNat ≠ 59)
set_option maxHeartbeats 1000000 in
theorem valfn_calls (c : UInt8) (w : World) :
    Calls Tryz.prog 243 #[.int .u8 c.toNat] w fun e w' => e = .returned (.bool (valB c)) ∧ w = w' := by
  go_enter Tryz.func243, Tryz.ntmps243
  go_wp2
  all_goals go_ret
  all_goals refine ⟨congrArg (fun b => Ending.returned (.bool b)) ?_, rfl⟩
  all_goals rw [Bool.eq_iff_iff]; simp [valB]; omega
theorem looks_value : Looks (.func (.func 243) #[] #[]) valB := ⟨_, rfl, Go.Proofs.enters_of Tryz.func243 (by kernel_rfl) rfl, valfn_calls⟩
def lineB (c : UInt8) : BA := ⟨#[98, 61, c]⟩
theorem line_facts (c : UInt8) (h : c = 120 ∨ c = 121) : scan valB (lineB c) 2 = 3 ∧ scan partB (lineB c) 0 = 1 ∧ (lineB c).extract 2 3 = ⟨#[c]⟩ ∧ (lineB c).extract 0 1 = ⟨#[98]⟩ := by
  rcases h with rfl | rfl <;> decide +kernel
theorem name_b : isName ⟨#[98]⟩ = true := by decide +kernel
set_option maxRecDepth 100000 in
set_option maxHeartbeats 1000000 in
theorem valueB_calls (c : UInt8) (h : c = 120 ∨ c = 121) (w : World) :
    Calls Tryz.prog 234 #[.string (lineB c), .int .i64 2] w fun e w' => e = .returned (.tuple #[.string ⟨#[c]⟩, .int .i64 3]) ∧ w = w' := by
  have hr := fun W => run_calls (lineB c) 2 _ valB looks_value (by show 2 ≤ 3; decide) (by show 3 ≤ _; decide) W
  rw [(line_facts c h).1] at hr
  have HR := Lib.hid hr
  have HE := Lib.hid (line_facts c h).2.2.1
  have hsz : (lineB c).size = 3 := rfl
  have hix : (lineB c)[2].toNat ≠ 34 := by show c.toNat ≠ 34; rcases h with rfl | rfl <;> decide
  have hix2 : (((lineB c)[2].toNat : Int) == 34) = false := by rw [Bool.eq_false_iff]; simp; omega
  clear hr hix
  go_enter Tryz.func234, Tryz.ntmps234
  go_wp2_with (go_at_call 102; go_must (refine (HR.out _).mono ?_; rintro e w5 ⟨rfl, rfl⟩))
  (try simp only [Exit.inBlock, Exit.then]); refine bodyPost_ret (results_list (rs := [.tmp _, .tmp _]) rfl (by simp) (.tmp (.tmp .nil))) rfl ?_
  exact ⟨by rw [HE.out]; rfl, rfl⟩
set_option maxRecDepth 100000 in
set_option maxHeartbeats 1000000 in
theorem getfn_calls (bn bo bi : Nat) (x v : BA) (o0 i0 : Value) (w : World) (hn : w.heap[bn]? = some (.cells #[.string x] 9 (0, 0))) (ho : w.heap[bo]? = some (.cells #[o0] 9 (0, 0))) (hi : w.heap[bi]? = some (.cells #[i0] 4 (0, 0))) (hno : bn ≠ bo) :
    Calls Tryz.prog 231 #[.string x, .string v, .pointer (some ⟨bn, 0, none⟩), .pointer (some ⟨bo, 0, none⟩), .pointer (some ⟨bi, 0, none⟩)] w fun e w' => e = .returned (.bool false) ∧ w' = (w.setCell ⟨bo, 0, none⟩ (.string v)).setCell ⟨bi, 0, none⟩ (.bool true) := by
  have cn := blk_cell hn 0
  have co := blk_cell ho 0
  have ci := blk_cell hi 0
  have fo := blk_frozen ho 0
  have fi := blk_frozen hi 0
  have d1 : bi ≠ bo := blk_ne hi ho (by decide)
  have lo := blk_lt ho
  have li := blk_lt hi
  go_enter Tryz.func231, Tryz.ntmps231
  go_wp2_with fail
  go_ret
  exact ⟨rfl, rfl⟩
set_option maxRecDepth 100000 in
set_option maxHeartbeats 1000000 in
theorem each_calls (c : UInt8) (h : c = 120 ∨ c = 121) (bn bo bi : Nat) (o0 i0 : Value) (w : World) (hn : w.heap[bn]? = some (.cells #[.string ⟨#[98]⟩] 9 (0, 0))) (ho : w.heap[bo]? = some (.cells #[o0] 9 (0, 0))) (hi : w.heap[bi]? = some (.cells #[i0] 4 (0, 0))) (hno : bn ≠ bo) :
    Calls Tryz.prog 230 #[.string (lineB c), .func (.func 231) #[] #[.pointer (some ⟨bn, 0, none⟩), .pointer (some ⟨bo, 0, none⟩), .pointer (some ⟨bi, 0, none⟩)]] w fun e w' =>
      e = .returned (.tuple #[]) ∧ w'.heap[bo]? = some (.cells #[.string ⟨#[c]⟩] 9 (0, 0)) ∧ w'.heap[bi]? = some (.cells #[.bool true] 4 (0, 0)) ∧ ∀ B, B ≤ bo → B ≤ bi → B ≤ w.heap.size → Below B w w' := by
  have hr := fun W => run_calls (lineB c) 0 _ partB looks_nameByte (Nat.zero_le _) (by show 3 ≤ _; decide) W
  rw [(line_facts c h).2.1] at hr
  have HR := Lib.hid hr
  have HE := Lib.hid (line_facts c h).2.2.2
  have HC := Lib.hid h
  have HNO := Lib.hid hno
  have hsz : (lineB c).size = 3 := rfl
  have hn1 : (lineB c)[1].toNat = 61 := rfl
  have HN := Lib.hid hn
  have HO := Lib.hid ho
  have HI := Lib.hid hi
  clear hr h hno hn ho hi
  go_enter Tryz.func230, Tryz.ntmps230
  go_wp2_with (go_at_call 232; go_must (refine (objParse_calls (lineB c) _ (by show 0 < 3; decide) rfl (by show 3 ≤ 65536; decide)).mono ?_; rintro e w5 ⟨rfl, hB5⟩))
  have tb := blk_alloc (blk_below (blk_new w (.cells #[.func (.func 231) #[] #[.pointer (some ⟨bn, 0, none⟩), .pointer (some ⟨bo, 0, none⟩), .pointer (some ⟨bi, 0, none⟩)]] 207 (0, 0))) hB5) (.cells #[.int .i64 0, .string ⟨#[]⟩, .slice none 0 0, .slice none 0 0] 241 (0, 0))
  have HN2 := Lib.hid (blk_alloc (blk_below (blk_alloc HN.out (.cells #[.func (.func 231) #[] #[.pointer (some ⟨bn, 0, none⟩), .pointer (some ⟨bo, 0, none⟩), .pointer (some ⟨bi, 0, none⟩)]] 207 (0, 0))) hB5) (.cells #[.int .i64 0, .string ⟨#[]⟩, .slice none 0 0, .slice none 0 0] 241 (0, 0)))
  have HO2 := Lib.hid (blk_alloc (blk_below (blk_alloc HO.out (.cells #[.func (.func 231) #[] #[.pointer (some ⟨bn, 0, none⟩), .pointer (some ⟨bo, 0, none⟩), .pointer (some ⟨bi, 0, none⟩)]] 207 (0, 0))) hB5) (.cells #[.int .i64 0, .string ⟨#[]⟩, .slice none 0 0, .slice none 0 0] 241 (0, 0)))
  have HI2 := Lib.hid (blk_alloc (blk_below (blk_alloc HI.out (.cells #[.func (.func 231) #[] #[.pointer (some ⟨bn, 0, none⟩), .pointer (some ⟨bo, 0, none⟩), .pointer (some ⟨bi, 0, none⟩)]] 207 (0, 0))) hB5) (.cells #[.int .i64 0, .string ⟨#[]⟩, .slice none 0 0, .slice none 0 0] 241 (0, 0)))
  have cb := blk_cell tb 0
  have hB6 := bw_trans (below_alloc (Below.refl w.heap.size w) _) hB5
  clear tb
  refine wp_loop_rounds 1 ?_
  rw [rounds_succ]
  go_wp2_with (first | (go_at_call 102; go_must (refine (HR.out _).mono ?_; rintro e w6 ⟨rfl, rfl⟩)) | (go_at_call 78; go_must (rw [HE.out]; refine (Name_calls _ (by decide) _).mono ?_; rintro e w7 ⟨rfl, rfl⟩; rw [name_b])) | (go_at_call 234; go_must (refine (valueB_calls c HC.out _).mono ?_; rintro e w8 ⟨rfl, rfl⟩)))
  refine (getfn_calls bn bo bi _ _ _ _ _ HN2.out HO2.out HI2.out HNO.out).mono ?_
  rintro e w9 ⟨rfl, rfl⟩
  go_wp2_with fail
  first | go_end0 | ((try simp only [Exit.inBlock, Exit.then]); refine bodyPost_ret (results_none rfl _ _ _) rfl ?_)
  have ho := HO2.out
  have hi := HI2.out
  have d1 : bi ≠ bo := blk_ne hi ho (by decide)
  refine ⟨rfl, ?_, ?_, fun B h1 h2 h3 => ?_⟩
  · exact blk_far (blk_set ho 0 _) d1.symm _
  · exact blk_set (blk_far hi d1 _) 0 _
  · exact ((below_weaken' h3 hB6).alloc (Nat.le_trans h3 hB6.size) _ |>.setCell h1 _).setCell h2 _
set_option maxRecDepth 100000 in
set_option maxHeartbeats 1000000 in
theorem Get_calls (c : UInt8) (h : c = 120 ∨ c = 121) (w : World) :
    Calls Tryz.prog 229 #[.string (lineB c), .string ⟨#[98]⟩] w fun e w' => e = .returned (.tuple #[.string ⟨#[c]⟩, .bool true]) ∧ Below w.heap.size w w' := by
  have hmf : ∀ (fn : Fn) (first cap : Array Value) (w : World), (Instr.makeFunc fn first cap).run Tryz.prog w = .ok (.func fn first cap) w := fun _ _ _ _ => rfl
  have HC := Lib.hid h
  clear h
  have n0 := blk_new w (.cells #[.string ⟨#[98]⟩] 9 (0, 0))
  go_enter Tryz.func229, Tryz.ntmps229
  go_wp2_with fail
  have o0 := blk_newn' (n := w.heap.size + 1) (w.alloc (.cells #[.string ⟨#[98]⟩] 9 (0, 0))) (.cells #[.string ⟨#[]⟩] 9 (0, 0)) (by simp)
  have i0 := blk_newn' (n := w.heap.size + 1 + 1) ((w.alloc (.cells #[.string ⟨#[98]⟩] 9 (0, 0))).alloc (.cells #[.string ⟨#[]⟩] 9 (0, 0))) (.cells #[.bool false] 4 (0, 0)) (by simp)
  refine (each_calls c HC.out w.heap.size (w.heap.size + 1) (w.heap.size + 1 + 1) _ _ _ (blk_alloc (blk_alloc n0 _) _) (blk_alloc o0 _) i0 (by omega)).mono ?_
  rintro e w1 ⟨rfl, ho, hi, hB⟩
  have hB1 := hB w.heap.size (by omega) (by omega) (by simp; omega)
  have hB2 : Below w.heap.size w w1 := below_weaken (by repeat (first | assumption | (with_reducible apply below_alloc) | (with_reducible apply pw_below_drewN) | (with_reducible apply below_drew) | (with_reducible apply Below.refl) | (with_reducible refine bw_set ?_ (by first | (dsimp only; omega) | omega | (simp; done) | (simp; omega)) _))) (Nat.le_refl _) hB1
  have co := blk_cell ho 0
  have ci := blk_cell hi 0
  clear hB hB1 ho hi o0 i0 n0
  go_wp2_with fail
  go_region
  go_wp2_with fail
  (try simp only [Exit.inBlock, Exit.then]); refine bodyPost_ret (results_list (rs := [.tmp _, .tmp _]) rfl (by simp) (.tmp (.tmp .nil))) rfl ?_
  exact ⟨rfl, (by repeat (first | assumption | (with_reducible apply below_alloc) | (with_reducible apply pw_below_drewN) | (with_reducible apply below_drew) | (with_reducible apply Below.refl) | (with_reducible refine bw_set ?_ (by first | (dsimp only; omega) | omega | (simp; done) | (simp; omega)) _)))⟩
end Go.Proofs.YtjcnjpljngabfaaGreatDoor
