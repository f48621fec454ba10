import Derived.Test.YtjcnjpljngabfaaGreatDoorP1
import Derived.Test.YtjcnjpljngabfaaGreatDoorS7
namespace Go.Proofs.YtjcnjpljngabfaaGreatDoor
open Go.RowKit Go.Proofs.YtjcnjpljngabfaaGreatDoorW.PrintWords
set_option linter.unusedVariables false
def tokV (t : Tok) : Value := .agg #[.string t.text, .int .i64 t.at_, .bool t.bar, .bool t.bad]
set_option maxRecDepth 100000 in
set_option maxHeartbeats 2000000 in
theorem next_calls (g : Nat) (s : ByteArray) (i : Nat) (hi : i ≤ s.size) (hs : s.size ≤ 140737488351232) (w : World) (hg : w.heap[g]? = some (.cells #[.string s, .int .i64 i] 101 (0, 0))) :
    Calls Tryz.prog 47 #[.pointer (some ⟨g, 0, none⟩)] w fun e w' => e = .returned (tokV (tokAt s i)) ∧ w'.heap[g]? = some (.cells #[.string s, .int .i64 (tokAt s i).at_] 101 (0, 0)) ∧ w.grownBy w' (some g) := by
  have hlg := blk_lt hg
  have hne : g ≠ w.heap.size := by omega
  go_enter Tryz.func47, Tryz.ntmps47
  go_upto_block 0 with fail
  go_cut [] (fun wx => wx.heap[g]? = some (.cells #[.string s, .int .i64 (scan blankB s i : Nat)] 101 (0, 0)) ∧ wx.heap[w.heap.size]? = some (.cells #[.string ⟨#[]⟩, .int .i64 0, .bool false, .bool false] 103 (0, 0)) ∧ w.grownBy wx (some g))
  case first =>
    go_wp2_with fail
    go_loopg [] (s.size - i) (fun n wr => ∃ k : Nat, n = s.size - k ∧ k ≤ s.size ∧ Hid (scan blankB s k = scan blankB s i) ∧ wr.heap[g]? = some (.cells #[.string s, .int .i64 k] 101 (0, 0)) ∧ wr.heap[w.heap.size]? = some (.cells #[.string ⟨#[]⟩, .int .i64 0, .bool false, .bool false] 103 (0, 0)) ∧ w.grownBy wr (some g))
    case atStart => exact ⟨i, rfl, hi, rfl, blk_alloc hg _, blk_new _ _, (by repeat (first | assumption | (with_reducible apply gb_alloc) | (with_reducible apply gb_drewN) | (with_reducible apply gb_drew) | (with_reducible refine gb_set ?_ (.inl rfl) _) | (with_reducible refine gb_set ?_ (.inr (by first | (dsimp only; omega) | omega | (simp; done) | (simp; omega))) _) | (with_reducible apply gb_refl)))⟩
    case round =>
      obtain ⟨k, hn, hk, HS, hk0, hk1, hk2⟩ := hrel
      have d0 := blk_cell hk0 0
      have d1 := blk_cell hk0 1
      have e1 := blk_frozen hk0 1
      by_cases hlt : k < s.size
      · by_cases hb : s[k].toNat = 32
        · go_wp2
          go_quiet (fail)
          go_wp2
          go_roundg (s.size - (k + 1))
          case rel => exact ⟨k + 1, rfl, by omega, (scan_step hlt (by simp [blankB, hb])).trans HS, blk_set (w := wr.drewN nq) hk0 1 _, blk_far (w := wr.drewN nq) hk1 (by simpa using hne.symm) _, (by repeat (first | assumption | (with_reducible apply gb_alloc) | (with_reducible apply gb_drewN) | (with_reducible apply gb_drew) | (with_reducible refine gb_set ?_ (.inl rfl) _) | (with_reducible refine gb_set ?_ (.inr (by first | (dsimp only; omega) | omega | (simp; done) | (simp; omega))) _) | (with_reducible apply gb_refl)))⟩
          case measure => omega
        · have hb' : ((s[k].toNat : Int) == 32) = false := by simp; omega
          go_wp2
          go_quiet (fail)
          go_wp2
          go_meet
          rw [← HS.out, scan_stop hlt (by simp [blankB, hb])]
          exact ⟨hk0, hk1, (by repeat (first | assumption | (with_reducible apply gb_alloc) | (with_reducible apply gb_drewN) | (with_reducible apply gb_drew) | (with_reducible refine gb_set ?_ (.inl rfl) _) | (with_reducible refine gb_set ?_ (.inr (by first | (dsimp only; omega) | omega | (simp; done) | (simp; omega))) _) | (with_reducible apply gb_refl)))⟩
      · go_wp2
        go_quiet (fail)
        go_wp2
        go_meet
        rw [← HS.out, scan_end (by omega)]
        exact ⟨hk0, hk1, (by repeat (first | assumption | (with_reducible apply gb_alloc) | (with_reducible apply gb_drewN) | (with_reducible apply gb_drew) | (with_reducible refine gb_set ?_ (.inl rfl) _) | (with_reducible refine gb_set ?_ (.inr (by first | (dsimp only; omega) | omega | (simp; done) | (simp; omega))) _) | (with_reducible apply gb_refl)))⟩
  case rest =>
    obtain ⟨h0, h1, hgb⟩ := hcut
    obtain ⟨j, hj⟩ : ∃ j, j = scan blankB s i := ⟨_, rfl⟩
    have hjs : j ≤ s.size := by rw [hj]; exact scan_le _ _ _ hi
    rw [← hj] at h0
    have HJ : Hid (j = scan blankB s i) := hj
    clear hj
    have d0 := blk_cell h0 0
    have d1 := blk_cell h0 1
    go_upto_block 2 with fail
    go_cut [4] (fun s4 w2 => s4 = .int .i64 (scan wordB s j : Nat) ∧ w2.heap[g]? = some (.cells #[.string s, .int .i64 j] 101 (0, 0)) ∧ w2.heap[w.heap.size]? = some (.cells #[.string ⟨#[]⟩, .int .i64 0, .bool false, .bool false] 103 (0, 0)) ∧ w.grownBy w2 (some g))
    case first =>
      go_wp2_with fail
      go_loopg [4] (s.size - j) (fun n v wr => ∃ k : Nat, n = s.size - k ∧ k ≤ s.size ∧ v = .int .i64 k ∧ Hid (scan wordB s k = scan wordB s j) ∧ wr.heap[g]? = some (.cells #[.string s, .int .i64 j] 101 (0, 0)) ∧ wr.heap[w.heap.size]? = some (.cells #[.string ⟨#[]⟩, .int .i64 0, .bool false, .bool false] 103 (0, 0)) ∧ w.grownBy wr (some g))
      case atStart => exact ⟨j, rfl, hjs, rfl, rfl, h0, h1, hgb⟩
      case round =>
        obtain ⟨k, hn, hk, rfl, HS, hk0, hk1, hk2⟩ := hrel
        have d0 := blk_cell hk0 0
        have d1 := blk_cell hk0 1
        by_cases hlt : k < s.size
        · by_cases hw : wordB s[k] = true
          · have HW := Lib.hid hw
            simp only [wordB, Bool.and_eq_true, decide_eq_true_eq, Bool.not_eq_true', decide_eq_false_iff_not] at hw
            have a1 : 32 < (s[k].toNat : Int) := by omega
            have a2 : (s[k].toNat : Int) ≤ 126 := by omega
            have a3 : ((s[k].toNat : Int) != 124) = true := by rw [bne_iff_ne]; omega
            clear hw
            go_wp2
            go_roundg (s.size - (k + 1))
            case rel => exact ⟨k + 1, rfl, by omega, rfl, (scan_step hlt HW.out).trans HS, hk0, hk1, hk2⟩
            case measure => omega
          · have HW := Lib.hid (Bool.eq_false_iff.2 hw)
            clear hw
            go_wp2
            all_goals first
              | (go_meet; exact ⟨by rw [← HS.out, scan_stop hlt HW.out], hk0, hk1, hk2⟩)
              | (exfalso; have h1 : 32 < (s[k].toNat : Int) := by assumption
                 have h2 : (s[k].toNat : Int) ≤ 126 := by assumption
                 have h3 : ((s[k].toNat : Int) != 124) = true := by assumption
                 have h4 := HW.out
                 rw [bne_iff_ne] at h3
                 simp [wordB] at h4
                 omega)
        · go_wp2
          go_meet
          exact ⟨by rw [← HS.out, scan_end (by omega)], hk0, hk1, hk2⟩
    case rest =>
      obtain ⟨rfl, h0, h1, hgb⟩ := hcut
      obtain ⟨m, hm⟩ : ∃ m, m = scan wordB s j := ⟨_, rfl⟩
      rw [← hm]
      have hms : m ≤ s.size := by rw [hm]; exact scan_le _ _ _ hjs
      have hjm : j ≤ m := by rw [hm]; exact scan_ge _ _ _
      have HM : Hid (m = scan wordB s j) := hm
      clear hm d0 d1
      have lg := blk_lt h0
      have lt := blk_lt h1
      have d0 := blk_cell h0 0
      have d1 := blk_cell h0 1
      have t0 := blk_cell h1 0
      have t1 := blk_cell h1 1
      have t2 := blk_cell h1 2
      have t3 := blk_cell h1 3
      have f0 := blk_frozen h1 0
      have f1 := blk_frozen h1 1
      have f2 := blk_frozen h1 2
      have f3 := blk_frozen h1 3
      go_wp2
      all_goals refine bodyPost_ret (results_cell_row rfl _ _ w.heap.size 103 _ (0, 0) _ rfl (by repeat (first | (with_reducible exact h1) | (with_reducible apply blk_alloc) | (with_reducible apply blk_drewN) | (with_reducible apply blk_drew) | (with_reducible apply blk_set) | (with_reducible refine blk_far ?_ (by first | (dsimp only; omega) | omega | (simp; done) | (simp; omega)) _))) Tryz.underlying103 rfl (by kernel_rfl)) rfl ⟨?_, ?_, (by repeat (first | assumption | (with_reducible apply gb_alloc) | (with_reducible apply gb_drewN) | (with_reducible apply gb_drew) | (with_reducible refine gb_set ?_ (.inl rfl) _) | (with_reducible refine gb_set ?_ (.inr (by first | (dsimp only; omega) | omega | (simp; done) | (simp; omega))) _) | (with_reducible apply gb_refl)))⟩
      all_goals (clear d0 d1 t0 t1 t2 t3 f0 f1 f2 f3 lg lt)
      all_goals have HJ' := HJ.out
      all_goals have HM' := HM.out
      · have e : m ≤ j := (ext_nil hms).1 (by assumption)
        have lj : j < s.size := by assumption
        simp [tokV, tokAt, ← HJ', ← HM', e, lj, bt]
      · rw [show (tokAt s i).at_ = j from HJ'.symm]; exact blk_alloc (blk_far (blk_far (blk_far (blk_far h0 hne _) hne _) hne _) hne _) _
      · have e : m ≤ j := (ext_nil hms).1 (by assumption)
        have lj : ¬ j < s.size := by assumption
        simp [tokV, tokAt, ← HJ', ← HM', lj]
      · rw [show (tokAt s i).at_ = j from HJ'.symm]; exact blk_alloc (blk_far (blk_far (blk_far (blk_far h0 hne _) hne _) hne _) hne _) _
      · have e : ¬ m ≤ j := fun h => absurd ((ext_nil hms).2 h) (by assumption)
        simp [tokV, tokAt, ← HJ', ← HM', e]
      · rw [show (tokAt s i).at_ = j from HJ'.symm]; exact blk_alloc (blk_far (blk_far (blk_far (blk_far h0 hne _) hne _) hne _) hne _) _

/-- a reader of s stands ahead of the words ws, which end at F -/
def RAt (w : World) (g : Nat) (s : BA) (ws : List Wd) (F : Nat) : Prop :=
  ∃ i : Nat, i ≤ s.size ∧ w.heap[g]? = some (.cells #[.string s, .int .i64 i] 101 (0, 0)) ∧ words s i = ws ∧ fin s i = F
theorem RAt.lt {w : World} {g : Nat} {s : BA} {ws : List Wd} {F : Nat} (h : RAt w g s ws F) : g < w.heap.size := by
  obtain ⟨i, _, h, _⟩ := h; exact blk_lt h
theorem RAt.below {w w1 : World} {g : Nat} {s : BA} {ws : List Wd} {F : Nat} (h : RAt w g s ws F) (hb : Below w.heap.size w w1) : RAt w1 g s ws F := by
  obtain ⟨i, h1, h, h2⟩ := h; exact ⟨i, h1, blk_below h hb, h2⟩
theorem RAt.al {w : World} {g : Nat} {s : BA} {ws : List Wd} {F : Nat} (h : RAt w g s ws F) (x : Obj) : RAt (w.alloc x) g s ws F := h.below (below_alloc (Below.refl _ _) x)
theorem RAt.dr {w : World} {g : Nat} {s : BA} {ws : List Wd} {F : Nat} (h : RAt w g s ws F) (n : Nat) : RAt (w.drewN n) g s ws F := h
theorem RAt.grown {w w1 : World} {g k : Nat} {s : BA} {ws : List Wd} {F : Nat} (h : RAt w g s ws F) (hb : w.grownBy w1 (some k)) (hk : g ≠ k) : RAt w1 g s ws F := by
  obtain ⟨i, h1, h, h2⟩ := h; exact ⟨i, h1, blk_grown h hb (by intro e; injection e with e; exact hk e), h2⟩
theorem RAt.set {w : World} {g : Nat} {s : BA} {ws : List Wd} {F : Nat} (h : RAt w g s ws F) {p : Addr} (hp : g ≠ p.block) (u : Value) : RAt (w.setCell p u) g s ws F := by
  obtain ⟨i, h1, h, h2⟩ := h; exact ⟨i, h1, blk_far h hp u, h2⟩
/-- the next token is told; nothing is passed over but blanks -/
theorem next_w (g : Nat) (s : BA) (ws : List Wd) (F : Nat) (hs : s.size ≤ 140737488351232) (w : World) (h : RAt w g s ws F) :
    Calls Tryz.prog 47 #[.pointer (some ⟨g, 0, none⟩)] w fun e w' =>
      e = .returned (.agg #[.string (hdT ws), .int .i64 (hdA F ws), .bool (hdBar ws), .bool (hdBad (decide (F < s.size)) ws)]) ∧ RAt w' g s ws F ∧ w.grownBy w' (some g) := by
  obtain ⟨i, hi, hg, hw, hF⟩ := h
  obtain ⟨h1, h2, h3, h4⟩ := tok_eq hi hw hF
  refine (next_calls g s i hi hs w hg).mono ?_
  rintro e w' ⟨rfl, h5, h6⟩
  rw [h1] at h5
  exact ⟨by rw [h1]; rfl, ⟨_, h2, h5, h3, h4⟩, h6⟩
theorem pass_w (g : Nat) (s t : BA) (a : Nat) (ws : List Wd) (F : Nat) (bad : Bool) (hs : s.size ≤ 140737488351232) (w : World) (h : RAt w g s ((t, a) :: ws) F) :
    Calls Tryz.prog 51 #[.pointer (some ⟨g, 0, none⟩), .agg #[.string (hdT ((t, a) :: ws)), .int .i64 a, .bool (hdBar ((t, a) :: ws)), .bool bad]] w fun e w' =>
      e = .returned (.tuple #[]) ∧ RAt w' g s ws F ∧ w.grownBy w' (some g) := by
  obtain ⟨i, hi, hg, hw, hF⟩ := h
  rcases tok_cons hi hw with ⟨rfl, _, h1, h2, h3, _⟩ | ⟨hne, hsz, _, h1, h2, h3, _⟩
  · refine (pass_calls g s _ i a _ bad (by simp [hdT]; omega) w hg).mono ?_
    rintro e w' ⟨rfl, h5, h6⟩
    exact ⟨rfl, ⟨_, h3, by simpa [hdT, hdBar] using h5, h1, h2.trans hF⟩, h6⟩
  · refine (pass_calls g s _ i a _ bad (by simp [hdT, hne]; omega) w hg).mono ?_
    rintro e w' ⟨rfl, h5, h6⟩
    exact ⟨rfl, ⟨_, h3, by simpa [hdT, hdBar, hne] using h5, h1, h2.trans hF⟩, h6⟩
end Go.Proofs.YtjcnjpljngabfaaGreatDoor
