import Derived.Test.YtjcnjpljngabfaaGreatDoorF1
import Derived.Test.YtjcnjpljngabfaaGreatDoorP2
import Derived.Defers
import Derived.Recover
import Derived.Great.Walk
import Derived.Deep.RegionWith
namespace Go.Proofs.YtjcnjpljngabfaaGreatDoor
open Go.RowKit Go.Proofs.YtjcnjpljngabfaaGreatDoorW.PrintWords
set_option linter.unusedVariables false
theorem frame19 (p0 p1 p2 I u : Value) : (#[p0, p1, p2] ++ ((Array.replicate 19 u).setIfInBounds 3 I).setIfInBounds 0 I : Array Value) = #[p0, p1, p2, I, u, u, I, u, u, u, u, u, u, u, u, u, u, u, u, u, u, u] := by
  apply Array.ext'
  simp [List.replicate]
theorem blk_newn' {n : Nat} (w : World) (o : Obj) (h : w.heap.size = n) : (w.alloc o).heap[n]? = some o := h ▸ blk_new w o
/-! object.Parse at a text that begins with the byte b: it gives up at place 0 -/
def wrongV (n a : Int) : Value := .iface 314 (.agg #[.int .i64 n, .int .i64 a])
set_option maxRecDepth 100000 in
set_option maxHeartbeats 1000000 in
theorem bad_calls (g : Nat) (s : BA) (a : Int) (w : World) (h : w.heap[g]? = some (.cells #[.string s, .int .i64 a] 318 (0, 0))) :
    Calls Tryz.prog 237 #[.pointer (some ⟨g, 0, none⟩)] w fun e w' => e = .panicked [{ v := wrongV 130 a, recovered := false }] ∧ w = w' := by
  have xa := blk_cell h 0; have xb := blk_cell h 1; have xx := blk_frozen h 0; have xy := blk_frozen h 1; have xl := blk_lt h
  go_enter Tryz.func237, Tryz.ntmps237
  go_wp2_with fail
  exact ⟨rfl, rfl, rfl⟩
/-- the reader's byte -/
theorem peek_calls (g : Nat) (s : BA) (a : Nat) (w : World) (ha : a < s.size) (hs : s.size ≤ 140737488351232) (h : w.heap[g]? = some (.cells #[.string s, .int .i64 a] 318 (0, 0))) :
    Calls Tryz.prog 245 #[.pointer (some ⟨g, 0, none⟩)] w fun e w' => e = .returned (.int .u8 (s[a].toNat)) ∧ Below w.heap.size w w' := by
  have xa := blk_cell h 0; have xb := blk_cell h 1; have xx := blk_frozen h 0; have xy := blk_frozen h 1; have xl := blk_lt h
  have ha' : (a : Int) < s.size := by omega
  go_enter Tryz.func245, Tryz.ntmps245
  go_wp2_with fail
  go_region
  go_wp2_with fail
  go_region
  go_wp2_with fail
  go_ret
  exact ⟨rfl, (by repeat (first | assumption | (with_reducible apply below_alloc) | (with_reducible apply pw_below_drewN) | (with_reducible apply below_drew) | (with_reducible apply Below.refl) | (with_reducible refine bw_set ?_ (by first | (dsimp only; omega) | omega | (simp; done) | (simp; omega)) _)))⟩
theorem ix_blank : Lib.indexByte [32, 9, 10, 13] 98 = -1 := by decide
theorem ix_start : Lib.indexByte [110, 102, 116, 34, 45, 91, 123] 98 = -1 := by decide
set_option maxRecDepth 100000 in
set_option maxHeartbeats 1000000 in
theorem blanks_calls (g : Nat) (s : BA) (w : World) (h0 : 0 < s.size) (hb : s[0].toNat = 98) (hs : s.size ≤ 140737488351232) (h : w.heap[g]? = some (.cells #[.string s, .int .i64 0] 318 (0, 0))) :
    Calls Tryz.prog 244 #[.pointer (some ⟨g, 0, none⟩)] w fun e w' => e = .returned (.tuple #[]) ∧ Below w.heap.size w w' := by
  have xa := blk_cell h 0; have xb := blk_cell h 1; have xx := blk_frozen h 0; have xy := blk_frozen h 1; have xl := blk_lt h
  have h0' : (0 : Int) < s.size := by omega
  have hix := ix_blank
  go_enter Tryz.func244, Tryz.ntmps244
  go_wp2_with fail
  refine wp_loop_rounds 1 ?_
  rw [rounds_succ]
  go_wp2_with fail
  go_quiet ((go_at_call 125; exact Calls.quiet_of_same (Tryz.strings_IndexByte _ _ _)))
  go_wp2_with fail
  first | go_end0 | ((try simp only [Exit.inBlock, Exit.then]); refine bodyPost_ret (results_none rfl _ _ _) rfl ?_)
  exact ⟨rfl, (by repeat (first | assumption | (with_reducible apply below_alloc) | (with_reducible apply pw_below_drewN) | (with_reducible apply below_drew) | (with_reducible apply Below.refl) | (with_reducible refine bw_set ?_ (by first | (dsimp only; omega) | omega | (simp; done) | (simp; omega)) _)))⟩
/-- it gives up at the first byte -/
theorem value_calls (g : Nat) (s : BA) (w : World) (h0 : 0 < s.size) (hb : s[0].toNat = 98) (hs : s.size ≤ 140737488351232) (h : w.heap[g]? = some (.cells #[.string s, .int .i64 0] 318 (0, 0))) :
    Calls Tryz.prog 236 #[.pointer (some ⟨g, 0, none⟩), .int .i64 0] w fun e w' => e = .panicked [{ v := wrongV 130 0, recovered := false }] ∧ Below w.heap.size w w' := by
  have hix := ix_start
  have hpk := fun W h => peek_calls g s 0 W h0 hs h
  rw [hb] at hpk
  have HPK := Lib.hid hpk
  clear hpk
  have H := Lib.hid h
  clear h
  go_enter Tryz.func236, Tryz.ntmps236
  go_wp2_with (first | (go_at_call 244; go_must (refine (blanks_calls g s _ h0 hb hs (blk_alloc H.out _)).mono ?_; rintro e w1 ⟨rfl, hB1⟩; have n1 := Lib.hid (blk_below (blk_alloc H.out _) hB1))) | (go_at_call 245; go_must (refine (HPK.out _ n1.out).mono ?_; rintro e w2 ⟨rfl, hB2⟩; have n2 := Lib.hid (blk_below n1.out hB2))) | (go_at_call 125; refine (Tryz.strings_IndexByte _ _ _).mono ?_; rintro e w' ⟨rfl, rfl⟩) | (go_at_call 237; go_must (refine (bad_calls g s 0 _ n2.out).mono ?_; rintro e w3 ⟨rfl, rfl⟩)))
  exact ⟨rfl, rfl, bw_trans (bw_trans (below_alloc (Below.refl _ _) _) hB1) hB2⟩
set_option maxRecDepth 100000 in
set_option maxHeartbeats 1000000 in
theorem catch_calls (bv be ba : Nat) (v0 v1 v2 v3 e0 a0 : Value) (n a : Int) (older : List PanicEntry) (w : World) (hv : w.heap[bv]? = some (.cells #[v0, v1, v2, v3] 241 (0, 0))) (he : w.heap[be]? = some (.cells #[e0] 24 (0, 0))) (ha : w.heap[ba]? = some (.cells #[a0] 3 (0, 0))) :
    CallsD Tryz.prog 235 #[.pointer (some ⟨bv, 0, none⟩), .pointer (some ⟨be, 0, none⟩), .pointer (some ⟨ba, 0, none⟩)] (.panicking ({ v := wrongV n a, recovered := false } :: older)) w fun e u' w' =>
      e = .returned (.tuple #[]) ∧ u' = .panicking ({ v := wrongV n a, recovered := true } :: older) ∧ w'.heap[bv]? = some (.cells #[.int .i64 0, .string ⟨#[]⟩, .slice none 0 0, .slice none 0 0] 241 (0, 0)) ∧ w'.heap[be]? = some (.cells #[.int .i64 n] 24 (0, 0)) ∧ w'.heap[ba]? = some (.cells #[.int .i64 a] 3 (0, 0)) ∧ ∀ B, B ≤ bv → B ≤ be → B ≤ ba → Below B w w' := by
  unfold wrongV
  refine callsD_of_wpS Tryz.func235 rfl fun c₀ cs hu => ?_
  apply wpS_seq
  apply wpS_region
  simp [wpOpsS, go_sem, recoverD, hu, Tryz.ntmps235, Exit.thenS]
  refine wpS_of_wp ?_
  rw [frame19]
  have tv0 := blk_cell hv 0
  have tv1 := blk_cell hv 1
  have tv2 := blk_cell hv 2
  have tv3 := blk_cell hv 3
  have fv0 := blk_frozen hv 0
  have fv1 := blk_frozen hv 1
  have fv2 := blk_frozen hv 2
  have fv3 := blk_frozen hv 3
  have te0 := blk_cell he 0
  have fe0 := blk_frozen he 0
  have ta0 := blk_cell ha 0
  have fa0 := blk_frozen ha 0
  have d1 : be ≠ bv := blk_ne he hv (by decide)
  have d2 : ba ≠ bv := blk_ne ha hv (by decide)
  have d3 : ba ≠ be := blk_ne ha he (by decide)
  have lv := blk_lt hv
  have le := blk_lt he
  have la := blk_lt ha
  have hta : ∀ (x : Value) (W : World), (Instr.typeAssert (.iface 314 x) 20 314 true).run Tryz.prog W = .ok (.tuple #[x, .bool true]) W := fun _ _ => by kernel_rfl
  go_wp2_with fail
  go_region
  show bodyPostS _ _ _ _ _ _ _ _ _
  refine ⟨rfl, _, rfl, .tuple #[], by simp [results, Tryz.results235], rfl, rfl, ?_, ?_, ?_, fun B h1 h2 h3 => ?_⟩
  · exact blk_drew (blk_alloc (blk_far (blk_far (blk_set (blk_set (blk_set (blk_set hv 0 _) 1 _) 2 _) 3 _) d1.symm _) d2.symm _) _)
  · exact blk_drew (blk_alloc (blk_far (blk_set (blk_far (blk_far (blk_far (blk_far he d1 _) d1 _) d1 _) d1 _) 0 _) d3.symm _) _)
  · exact blk_drew (blk_alloc (blk_set (blk_far (blk_far (blk_far (blk_far (blk_far ha d2 _) d2 _) d2 _) d2 _) d3 _) 0 _) _)
  · exact below_drew (Below.alloc ((((((Below.refl _ _).setCell h1 _).setCell h1 _).setCell h1 _).setCell h1 _).setCell h2 _ |>.setCell h3 _) (by simp; omega) _)
set_option maxRecDepth 100000 in
set_option maxHeartbeats 1000000 in
theorem objParse_calls (s : BA) (w : World) (h0 : 0 < s.size) (hb : s[0].toNat = 98) (hs : s.size ≤ 65536) :
    Calls Tryz.prog 232 #[.string s] w fun e w' => e = .returned (.tuple #[.agg #[.int .i64 0, .string ⟨#[]⟩, .slice none 0 0, .slice none 0 0], .int .i64 130, .int .i64 0]) ∧ Below w.heap.size w w' := by
  have hmf : ∀ (fn : Fn) (first cap : Array Value) (w : World), (Instr.makeFunc fn first cap).run Tryz.prog w = .ok (.func fn first cap) w := fun _ _ _ _ => rfl
  have hs' : (s.size : Int) ≤ 65536 := by omega
  go_enter_defers Tryz.func232, Tryz.ntmps232
  have z1 := blk_new w (.cells #[.int .i64 0, .string ⟨#[]⟩, .slice none 0 0, .slice none 0 0] 241 (0, 0))
  go_wp2_with (go_at_call 236; go_must (refine (value_calls _ s _ h0 hb (by omega) (blk_newn' _ _ (by simp))).mono ?_; rintro e w1 ⟨rfl, hB1⟩))
  have e1 := blk_newn' (n := w.heap.size + 1) (w.alloc (.cells #[.int .i64 0, .string ⟨#[]⟩, .slice none 0 0, .slice none 0 0] 241 (0, 0))) (.cells #[.int .i64 0] 24 (0, 0)) (by simp)
  have a1 := blk_newn' (n := w.heap.size + 1 + 1) ((w.alloc (.cells #[.int .i64 0, .string ⟨#[]⟩, .slice none 0 0, .slice none 0 0] 241 (0, 0))).alloc (.cells #[.int .i64 0] 24 (0, 0))) (.cells #[.int .i64 0] 3 (0, 0)) (by simp)
  refine leaves_cons (f := 235) (args := #[.pointer (some ⟨w.heap.size, 0, none⟩), .pointer (some ⟨w.heap.size + 1, 0, none⟩), .pointer (some ⟨w.heap.size + 1 + 1, 0, none⟩)]) (by simp) (by simp [go_sem]) ?_
  refine (catch_calls w.heap.size (w.heap.size + 1) (w.heap.size + 1 + 1) _ _ _ _ _ _ 130 0 [] w1 (blk_below (blk_alloc (blk_alloc (blk_alloc z1 _) _) _) hB1) (blk_below (blk_alloc (blk_alloc e1 _) _) hB1) (blk_below (blk_alloc a1 _) hB1)).mono ?_
  rintro e u' w2 ⟨rfl, rfl, hv, he, ha, hB⟩
  have hB2 := hB w.heap.size (Nat.le_refl _) (by omega) (by omega)
  have hB3 : Below w.heap.size w w1 := bw_trans (by repeat (first | assumption | (with_reducible apply below_alloc) | (with_reducible apply pw_below_drewN) | (with_reducible apply below_drew) | (with_reducible apply Below.refl) | (with_reducible refine bw_set ?_ (by first | (dsimp only; omega) | omega | (simp; done) | (simp; omega)) _))) hB1
  have hB4 : Below w.heap.size w w2 := below_weaken hB3 (Nat.le_refl _) hB2
  have v0 := blk_cell hv 0
  have v1 := blk_cell hv 1
  have v2 := blk_cell hv 2
  have v3 := blk_cell hv 3
  have e0 := blk_cell he 0
  have a0 := blk_cell ha 0
  simp [Leaves, settle, results, Tryz.results232, go_sem, v0, v1, v2, v3, e0, a0, hB4]
end Go.Proofs.YtjcnjpljngabfaaGreatDoor
