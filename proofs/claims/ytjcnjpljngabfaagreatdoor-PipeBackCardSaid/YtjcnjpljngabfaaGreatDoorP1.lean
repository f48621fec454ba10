import Derived.Test.YtjcnjpljngabfaaGreatDoorF1
namespace Go.Proofs.YtjcnjpljngabfaaGreatDoor
open Go.RowKit Go.Proofs.YtjcnjpljngabfaaGreatDoorW.PrintWords
set_option linter.unusedVariables false

set_option maxRecDepth 100000 in
set_option maxHeartbeats 1000000 in
theorem word_calls (k : Nat) (hk : k < 14) (w : World) :
    Calls Tryz.prog 58 #[.int .i64 k] w fun e w' => e = .returned (.string (kwL.getD k ByteArray.empty)) ∧ Below w.heap.size w w' := by
  go_enter Tryz.func58, Tryz.ntmps58
  go_wp2
  go_ret
  refine ⟨congrArg Ending.returned ?_, (by repeat (first | assumption | (with_reducible apply below_alloc) | (with_reducible apply pw_below_drewN) | (with_reducible apply below_drew) | (with_reducible apply Below.refl) | (with_reducible refine bw_set ?_ (by first | (dsimp only; omega) | omega | (simp; done) | (simp; omega)) _)))⟩
  show (kwL.map Value.string)[k]'(by simpa [kwL] using hk) = _
  rw [List.getElem_map, List.getD_eq_getElem?_getD, List.getElem?_eq_getElem (by simpa [kwL] using hk)]; rfl
set_option maxRecDepth 100000 in
set_option maxHeartbeats 1000000 in
theorem bounds_calls (k : Int) (w : World) :
    Calls Tryz.prog 77 #[.int .i64 k] w fun e w' => e = .returned (.tuple #[.int .i64 (bnd k).1, .int .i64 (bnd k).2.1, .int .i64 (bnd k).2.2.1, .int .i64 (bnd k).2.2.2]) ∧ w = w' := by
  go_enter Tryz.func77, Tryz.ntmps77
  go_wp2
  all_goals refine bodyPost_ret (results_list (rs := [.tmp _, .tmp _, .tmp _, .tmp _]) rfl (by simp) (.tmp (.tmp (.tmp (.tmp .nil))))) rfl ?_
  all_goals refine ⟨congrArg Ending.returned ?_, rfl⟩
  all_goals simp only [beq_iff_eq, beq_eq_false_iff_ne] at *
  all_goals simp [bnd, *]
theorem table_calls (k : Int) (w : World) :
    Calls Tryz.prog 49 #[.int .i64 k] w fun e w' => e = .returned (.bool (decide (k ≤ 8) || decide (k = 12))) ∧ w = w' := by
  go_enter Tryz.func49, Tryz.ntmps49
  go_wp2
  all_goals go_ret
  all_goals refine ⟨congrArg (fun b => Ending.returned (.bool b)) ?_, rfl⟩
  all_goals first | (simp [*]; done) | (simp; omega) | (rw [Bool.eq_iff_iff]; simp; done)
set_option maxRecDepth 100000 in
set_option maxHeartbeats 1000000 in
theorem pass_calls (g : Nat) (s x : BA) (i a : Nat) (bar bad : Bool) (hx : a + x.size + 1 ≤ 140737488351233) (w : World) (hg : w.heap[g]? = some (.cells #[.string s, .int .i64 i] 101 (0, 0))) :
    Calls Tryz.prog 51 #[.pointer (some ⟨g, 0, none⟩), .agg #[.string x, .int .i64 a, .bool bar, .bool bad]] w fun e w' => e = .returned (.tuple #[]) ∧ w'.heap[g]? = some (.cells #[.string s, .int .i64 (a + x.size + (if bar then 1 else 0) : Nat)] 101 (0, 0)) ∧ w.grownBy w' (some g) := by
  have hlg := blk_lt hg
  have hne : g ≠ w.heap.size := by omega
  have c0 := blk_cell hg 0
  have c1 := blk_cell hg 1
  have f1 := blk_frozen hg 1
  go_enter Tryz.func51, Tryz.ntmps51
  cases bar
  all_goals go_wp2
  all_goals first | go_end0 | ((try simp only [Exit.inBlock, Exit.then]); refine bodyPost_ret (results_none rfl _ _ _) rfl ?_)
  · exact ⟨rfl, blk_alloc (blk_set hg 1 _) _, (by repeat (first | assumption | (with_reducible apply gb_alloc) | (with_reducible apply gb_drewN) | (with_reducible apply gb_drew) | (with_reducible refine gb_set ?_ (.inl rfl) _) | (with_reducible refine gb_set ?_ (.inr (by first | (dsimp only; omega) | omega | (simp; done) | (simp; omega))) _) | (with_reducible apply gb_refl)))⟩
  · exact ⟨rfl, blk_alloc (blk_set (blk_set hg 1 _) 1 _) _, (by repeat (first | assumption | (with_reducible apply gb_alloc) | (with_reducible apply gb_drewN) | (with_reducible apply gb_drew) | (with_reducible refine gb_set ?_ (.inl rfl) _) | (with_reducible refine gb_set ?_ (.inr (by first | (dsimp only; omega) | omega | (simp; done) | (simp; omega))) _) | (with_reducible apply gb_refl)))⟩
set_option maxRecDepth 100000 in
set_option maxHeartbeats 1000000 in
theorem kind_calls (s : BA) (hs : s.size ≤ 140737488351232) (w : World) :
    Calls Tryz.prog 76 #[.string s] w fun e w' => e = .returned (.int .i64 (kindOf s : Nat)) ∧ Below w.heap.size w w' := by
  go_enter Tryz.func76, Tryz.ntmps76
  go_wp2_with fail
  go_loopg [3] 14 (fun n t wr => ∃ k : Nat, n = 15 - k ∧ 1 ≤ k ∧ k ≤ 14 ∧ t = .int .i64 k ∧ Hid (kindL (kwL.drop k) k s = kindOf s) ∧ Below w.heap.size w wr)
  case atStart => exact ⟨1, rfl, by omega, by omega, rfl, rfl, (by repeat (first | assumption | (with_reducible apply below_alloc) | (with_reducible apply pw_below_drewN) | (with_reducible apply below_drew) | (with_reducible apply Below.refl) | (with_reducible refine bw_set ?_ (by first | (dsimp only; omega) | omega | (simp; done) | (simp; omega)) _)))⟩
  case round =>
    obtain ⟨k, hn, h1, hk, rfl, HS, hb⟩ := hrel
    by_cases hlt : k < 14
    · obtain ⟨x, hx⟩ : ∃ x, x = kwL.getD k ByteArray.empty := ⟨_, rfl⟩
      have hc := word_calls k hlt
      rw [← hx] at hc
      have HC := Lib.hid hc
      have HX := Lib.hid hx
      clear hc hx
      by_cases he : x.toList = s.toList
      · have hw : (x.toList == s.toList) = true := by simp [he]
        have HE := Lib.hid he
        clear he
        go_wp2_with (go_at_call 58; refine (HC.out _).mono ?_; rintro e w1 ⟨rfl, hb1⟩)
        go_ret
        exact ⟨by rw [← HS.out, kind_step hlt, ← HX.out, if_pos HE.out]; rfl, bw_trans hb hb1⟩
      · have hw : (x.toList == s.toList) = false := by simp [he]
        have HE := Lib.hid he
        clear he
        go_wp2_with (go_at_call 58; refine (HC.out _).mono ?_; rintro e w1 ⟨rfl, hb1⟩)
        go_roundg (15 - (k + 1))
        case rel => exact ⟨k + 1, rfl, by omega, by omega, rfl, by rw [← HS.out, kind_step hlt, ← HX.out, if_neg HE.out]; rfl, bw_trans hb hb1⟩
        case measure => omega
    · go_wp2_with fail
      go_ret
      obtain rfl : k = 14 := by omega
      exact ⟨by rw [← HS.out]; rfl, hb⟩
/-- what a number is where there is one -/
def IsN (o : Option Nat) (v : Int) : Prop := ∀ n, o = some n → v = n
set_option maxRecDepth 100000 in
set_option maxHeartbeats 1000000 in
theorem number_calls (s : BA) (m : Int) (hs : s.size ≤ 140737488351232) (w : World) :
    Calls Tryz.prog 80 #[.string s, .int .i64 m] w fun e w' => (∃ v, e = .returned (.tuple #[.int .i64 v, .bool (manyOf s m).isSome]) ∧ IsN (manyOf s m) v) ∧ w = w' := by
  by_cases h0 : s.size = 0
  · have hn : manyOf s m = none := by rw [manyOf, if_neg (by omega)]
    have h1 := tl_nil h0
    rw [hn]
    clear hn
    go_enter Tryz.func80, Tryz.ntmps80
    go_wp2_with fail
    go_ret2
    exact ⟨⟨0, rfl, fun n h => by cases h⟩, rfl⟩
  have h0' : 0 < s.size := by omega
  have t1 := tl_ne h0'
  have t2 := tl_empty h0'
  by_cases h7 : 7 < s.size
  · have hn : manyOf s m = none := by rw [manyOf, if_neg (by omega)]
    rw [hn]
    clear hn
    go_enter Tryz.func80, Tryz.ntmps80
    go_wp2_with fail
    go_ret2
    exact ⟨⟨0, rfl, fun n h => by cases h⟩, rfl⟩
  have hh : s.data.toList.head? = some s[0] := by have := drop_at s 0 h0'; simp at this; rw [this]; rfl
  have HH := Lib.hid hh
  clear hh
  by_cases h8 : s[0].toNat = 48
  · have hn : manyOf s m = none := by rw [manyOf, if_neg (by rw [HH.out]; intro h; exact h.2.2.1 (by rw [← UInt8.toNat_inj.1 (show s[0].toNat = (48 : UInt8).toNat from h8)]))]
    rw [hn]
    clear hn
    have a : ((s[0].toNat : Int) == 48) = true := by simp [h8]
    go_enter Tryz.func80, Tryz.ntmps80
    go_wp2_with fail
    go_ret2
    exact ⟨⟨0, rfl, fun n h => by cases h⟩, rfl⟩
  have a : ((s[0].toNat : Int) == 48) = false := by simp; omega
  go_enter Tryz.func80, Tryz.ntmps80
  go_wp2_with fail
  go_loopg [6, 22] s.size (fun g v i wr => ∃ k N : Nat, g = s.size - k ∧ k ≤ s.size ∧ i = .int .i64 k ∧ v = .int .i64 N ∧ N ≤ 9999999 ∧ Hid (N = numL (s.data.toList.take k)) ∧ Hid ((s.data.toList.take k).all digitB = true) ∧ wr = w)
  case atStart => exact ⟨0, 0, rfl, by omega, rfl, rfl, by omega, rfl, rfl, rfl⟩
  case round =>
    obtain ⟨k, N, hn, hk, rfl, rfl, hN, HN, HD, rfl⟩ := hrel
    by_cases hlt : k < s.size
    · by_cases hd : digitB s[k] = true
      · have HD1 := Lib.hid hd
        simp only [digitB, Bool.and_eq_true, decide_eq_true_eq] at hd
        have a1 : 48 ≤ (s[k].toNat : Int) := by omega
        have a2 : (s[k].toNat : Int) ≤ 57 := by omega
        have HA : Hid ((s.data.toList.take (k + 1)).all digitB = true) := by
          show _ = true
          rw [take_snoc s k hlt, List.all_append, HD.out]; simp [HD1.out]
        have hb := numL_lt (k + 1) (s.data.toList.take (k + 1)) (by rw [List.length_take]; simp; omega) HA.out
        have hp : 10 ^ (k + 1) ≤ 10 ^ 7 := Nat.pow_le_pow_right (by omega) (by omega)
        have hs2 : numL (s.data.toList.take (k + 1)) = 10 * N + (s[k].toNat - 48) := by rw [take_snoc s k hlt, numL_snoc, HN.out]
        have HS2 := Lib.hid hs2
        have hb2 : 10 * N + (s[k].toNat - 48) ≤ 9999999 := by omega
        clear hd hb hp hs2
        go_wp2_with fail
        go_roundg (s.size - (k + 1))
        case rel => exact ⟨k + 1, 10 * N + (s[k].toNat - 48), rfl, by omega, rfl, by congr 1; omega, hb2, HS2.out.symm, HA.out, rfl⟩
        case measure => omega
      · have hn : manyOf s m = none := by rw [manyOf, if_neg (by rw [not_all_at s digitB k hlt (by simpa using hd)]; simp)]
        have HNN := Lib.hid hn
        clear hn
        by_cases c1 : (s[k].toNat : Int) < 48
        · go_wp2_with fail
          go_ret2
          exact ⟨⟨0, by rw [HNN.out]; rfl, fun n h => by rw [HNN.out] at h; cases h⟩, rfl⟩
        · have c2 : 57 < (s[k].toNat : Int) := by simp [digitB] at hd; omega
          go_wp2_with fail
          go_ret2
          exact ⟨⟨0, by rw [HNN.out]; rfl, fun n h => by rw [HNN.out] at h; cases h⟩, rfl⟩
    · obtain rfl : k = s.size := by omega
      have hN2 := HN.out
      have hD2 := HD.out
      rw [take_all] at hN2 hD2
      have hm : (manyOf s m).isSome = decide ((N : Int) ≤ m) := by
        rw [manyOf, hN2]
        by_cases h : (numL s.data.toList : Int) ≤ m
        · rw [if_pos ⟨by omega, by omega, by rw [HH.out]; intro e; injection e with e; exact h8 (by rw [e]; rfl), hD2, h⟩]; simp [h]
        · rw [if_neg (fun e => h e.2.2.2.2)]; simp [h]
      have hI : IsN (manyOf s m) N := by
        intro n h
        rw [manyOf] at h
        split at h
        · injection h with h; omega
        · cases h
      have HI := Lib.hid hI
      have HM := Lib.hid hm
      clear hI hm hN2 hD2
      go_wp2_with fail
      all_goals go_ret2
      all_goals exact ⟨⟨N, by rw [HM.out]; rfl, HI.out⟩, rfl⟩
end Go.Proofs.YtjcnjpljngabfaaGreatDoor
