import Derived.Test.YtjcnjpljngabfaaGreatDoorP2
import Derived.Test.YtjcnjpljngabfaaGreatDoorS3
namespace Go.Proofs.YtjcnjpljngabfaaGreatDoor
open Go.RowKit Go.Proofs.YtjcnjpljngabfaaGreatDoorW.PrintWords
set_option linter.unusedVariables false
/-- a cutter of s stands at i -/
def CAt (w : World) (g : Nat) (s : BA) (i : Nat) (bad : Bool) : Prop := w.heap[g]? = some (.cells #[.string s, .int .i64 i, .bool bad] 181 (0, 0))
theorem CAt.al {w : World} {g : Nat} {s : BA} {i : Nat} {bad : Bool} (h : CAt w g s i bad) (x : Obj) : CAt (w.alloc x) g s i bad := blk_alloc h x
theorem CAt.bl {w w1 : World} {g : Nat} {s : BA} {i : Nat} {bad : Bool} (h : CAt w g s i bad) (hb : Below w.heap.size w w1) : CAt w1 g s i bad := blk_below h hb
set_option maxRecDepth 100000 in
set_option maxHeartbeats 1000000 in
theorem takes_calls (g : Nat) (s t : BA) (i : Nat) (bad : Bool) (hi : i ≤ s.size) (hs : s.size ≤ 140737488351232) (w : World) (hg : CAt w g s i bad) :
    Calls Tryz.prog 107 #[.pointer (some ⟨g, 0, none⟩), .string t] w fun e w' =>
      e = .returned (.bool (preB t (s.data.toList.drop i))) ∧ CAt w' g s (if preB t (s.data.toList.drop i) then i + t.size else i) bad ∧ w.grownBy w' (some g) := by
  have hg := (show w.heap[g]? = some (.cells #[.string s, .int .i64 i, .bool bad] 181 (0, 0)) from hg)
  have c0 := blk_cell hg 0
  have c1 := blk_cell hg 1
  have f1 := blk_frozen hg 1
  have hp : Lib.hasPrefix (List.take (s.size - i) (List.drop i s.data.toList)) t.data.toList = preB t (s.data.toList.drop i) := by
    rw [List.take_of_length_le (by rw [List.length_drop]; exact Nat.le_refl _)]; rfl
  obtain ⟨b, hb⟩ : ∃ b, b = preB t (s.data.toList.drop i) := ⟨_, rfl⟩
  rw [← hb] at hp ⊢
  have HB := Lib.hid hb
  clear hb
  cases b
  · go_enter Tryz.func107, Tryz.ntmps107
    go_wp2_with fail
    go_quiet ((go_at_call 128; exact Calls.quiet_of_same (Tryz.strings_HasPrefix _ _ _)))
    go_wp2
    go_ret
    exact ⟨rfl, hg, (by repeat (first | assumption | (with_reducible apply gb_alloc) | (with_reducible apply gb_drewN) | (with_reducible apply gb_drew) | (with_reducible refine gb_set ?_ (.inl rfl) _) | (with_reducible refine gb_set ?_ (.inr (by first | (dsimp only; omega) | omega | (simp; done) | (simp; omega))) _) | (with_reducible apply gb_refl)))⟩
  · have hl : i + t.size ≤ s.size := by
      have h1 := HB.out
      have h2 := (List.isPrefixOf_iff_prefix.1 h1.symm).length_le
      rw [List.length_drop] at h2
      have h3 : t.data.toList.length = t.size := rfl
      have h4 : s.data.toList.length = s.size := rfl
      have h5 : t.size ≤ s.size - i := by omega
      omega
    go_enter Tryz.func107, Tryz.ntmps107
    go_wp2_with fail
    go_quiet ((go_at_call 128; exact Calls.quiet_of_same (Tryz.strings_HasPrefix _ _ _)))
    go_wp2
    try go_quiet (fail)
    go_wp2
    go_ret
    exact ⟨rfl, blk_set hg 1 _, (by repeat (first | assumption | (with_reducible apply gb_alloc) | (with_reducible apply gb_drewN) | (with_reducible apply gb_drew) | (with_reducible refine gb_set ?_ (.inl rfl) _) | (with_reducible refine gb_set ?_ (.inr (by first | (dsimp only; omega) | omega | (simp; done) | (simp; omega))) _) | (with_reducible apply gb_refl)))⟩
set_option maxRecDepth 100000 in
set_option maxHeartbeats 1000000 in
theorem end_calls (g : Nat) (s : BA) (i : Nat) (bad : Bool) (w : World) (hg : CAt w g s i bad) :
    Calls Tryz.prog 108 #[.pointer (some ⟨g, 0, none⟩)] w fun e w' => e = .returned (.bool (decide (i = s.size))) ∧ ∃ n, w' = w.drewN n := by
  have hg := (show w.heap[g]? = some (.cells #[.string s, .int .i64 i, .bool bad] 181 (0, 0)) from hg)
  have c0 := blk_cell hg 0
  have c1 := blk_cell hg 1
  go_enter Tryz.func108, Tryz.ntmps108
  go_wp2
  go_quiet (fail)
  go_wp2
  go_ret
  exact ⟨congrArg (fun b => Ending.returned (.bool b)) (by show ((i : Int) == s.size) = _; rw [Bool.eq_iff_iff]; simp; omega), _, rfl⟩
theorem takes_yes {g : Nat} {s t : BA} {i : Nat} {bad : Bool} (h : preB t (s.data.toList.drop i) = true) (hi : i ≤ s.size) (hs : s.size ≤ 140737488351232) (w : World) (hg : CAt w g s i bad) :
    Calls Tryz.prog 107 #[.pointer (some ⟨g, 0, none⟩), .string t] w fun e w' => e = .returned (.bool true) ∧ CAt w' g s (i + t.size) bad ∧ w.grownBy w' (some g) := by
  have := takes_calls g s t i bad hi hs w hg
  rw [h, if_pos rfl] at this
  exact this
theorem takes_no {g : Nat} {s t : BA} {i : Nat} {bad : Bool} (h : preB t (s.data.toList.drop i) = false) (hi : i ≤ s.size) (hs : s.size ≤ 140737488351232) (w : World) (hg : CAt w g s i bad) :
    Calls Tryz.prog 107 #[.pointer (some ⟨g, 0, none⟩), .string t] w fun e w' => e = .returned (.bool false) ∧ CAt w' g s i bad ∧ w.grownBy w' (some g) := by
  have := takes_calls g s t i bad hi hs w hg
  rw [h, if_neg (by decide)] at this
  exact this
theorem decFrom_digits : ∀ (l : List UInt8) (a : Nat), l.all digitB = true → Lib.decFrom a l = some (l.foldl (fun n c => 10 * n + (c.toNat - 48)) a)
  | [], a, _ => rfl
  | c :: l, a, h => by
    simp only [List.all_cons, Bool.and_eq_true] at h
    have h1 := h.1
    simp [digitB] at h1
    rw [List.foldl_cons, ← decFrom_digits l _ h.2, Lib.decFrom, Lib.digitVal, if_pos h1, Nat.mul_comm a 10]
theorem atoi_digits {l : List UInt8} (h0 : l ≠ []) (h : l.all digitB = true) : Lib.atoi l = some (numL l : Int) := by
  cases l with
  | nil => exact absurd rfl h0
  | cons c r =>
    have h1 := h
    simp only [List.all_cons, Bool.and_eq_true] at h1
    have h2 := h1.1
    simp [digitB] at h2
    have a1 : (c == 45) = false := by rw [beq_eq_false_iff_ne]; rintro rfl; exact absurd h2.1 (by decide)
    have a2 : (c == 43) = false := by rw [beq_eq_false_iff_ne]; rintro rfl; exact absurd h2.1 (by decide)
    simp only [Lib.atoi, a1, a2, Lib.decNat, List.isEmpty_cons, Bool.false_eq_true, if_false]
    rw [decFrom_digits _ _ h]; rfl
theorem below_bytes {w : World} (t : BA) : Below w.heap.size w (Lib.bytesWorld w 5 t) := bytes_below (Below.refl _ _) (Nat.le_refl _) 5 t
theorem atoi_calls (t : BA) (h0 : 1 ≤ t.size) (h1 : t.size ≤ 18) (hd : t.data.toList.all digitB = true) (w : World) :
    Calls Tryz.prog 105 #[.string t] w fun e w' => e = .returned (.tuple #[.int .i64 (numL t.data.toList), .nilIface]) ∧ Below w.heap.size w w' := by
  refine (Tryz.strconv_Atoi t _ h1 (atoi_digits (by intro h; have : t.data.toList.length = t.size := rfl; rw [h] at this; simp at this; omega) hd) w).mono ?_
  rintro e w' ⟨rfl, x, rfl⟩
  exact ⟨rfl, below_bytes x⟩
def unitCells : Array Value := #[.string dT, .int .i64 86400000, .string hT, .int .i64 3600000, .string msT, .int .i64 1, .string mT, .int .i64 60000, .string sT, .int .i64 1000]
set_option maxRecDepth 100000 in
theorem units_calls (w : World) :
    Calls Tryz.prog 106 #[] w fun e w' => e = .returned (.slice (some ⟨w.heap.size, 0, none⟩) 5 5) ∧ w' = w.alloc (.cells unitCells 148) := by
  go_enter Tryz.func106, Tryz.ntmps106
  go_wp2
  go_ret
  exact ⟨rfl, rfl⟩
/-- how far the units were tried: none fits yet, or one has been taken -/
def USt (o : Option (BA × Nat)) (v : Value) (w : World) (g : Nat) (s : BA) (j : Nat) : Prop :=
  match o with
  | none => v = .int .i64 0 ∧ CAt w g s j false
  | some u => v = .int .i64 u.2 ∧ CAt w g s (j + u.1.size) false ∧ j + u.1.size ≤ s.size ∧ 1 ≤ u.2
theorem find_snoc {α : Type} (p : α → Bool) (l : List α) (k : Nat) (d : α) (hk : k < l.length) : (l.take (k + 1)).find? p = (match (l.take k).find? p with | some u => some u | none => if p (l.getD k d) then some (l.getD k d) else none) := by
  rw [List.take_succ_eq_append_getElem hk, List.find?_append, List.getD_eq_getElem?_getD, List.getElem?_eq_getElem hk]
  cases (l.take k).find? p with
  | some u => rfl
  | none => simp [List.find?_cons]; split <;> simp_all
theorem unit_cell (k : Nat) (hk : k < 5) : unitCells[k * 2]? = some (.string (unitsL.getD k (dT, 0)).1) ∧ unitCells[k * 2 + 1]? = some (.int .i64 (unitsL.getD k (dT, 0)).2) := by
  have : k = 0 ∨ k = 1 ∨ k = 2 ∨ k = 3 ∨ k = 4 := by omega
  rcases this with rfl | rfl | rfl | rfl | rfl <;> exact ⟨rfl, rfl⟩
set_option maxRecDepth 100000 in
set_option maxHeartbeats 4000000 in
theorem Span_calls (s : BA) (hs : s.size ≤ 140737488351232) (w : World) :
    Calls Tryz.prog 81 #[.string s] w fun e w' => e = .returned (.tuple #[.int .i64 (spanN s), .int .i64 (spanE s)]) ∧ Below w.heap.size w w' := by
  go_enter Tryz.func81, Tryz.ntmps81
  go_wp2_with fail
  go_loopg [4, 5] (s.size + 1) (fun n v4 v5 wr => ∃ i sum last f : Nat, n = s.size + 1 - i ∧ i ≤ s.size ∧ sum ≤ 253402300799999 ∧ last ≤ 253402300800000 ∧ v4 = .int .i64 sum ∧ v5 = .int .i64 last ∧ s.size + 1 - i ≤ f ∧ Hid (spanF f (s.data.toList.drop i) sum last = spanOf s) ∧ CAt wr w.heap.size s i false ∧ Below w.heap.size w wr)
  case atStart => exact ⟨0, 0, 253402300800000, s.size + 1, rfl, by omega, by omega, by omega, rfl, rfl, by omega, rfl, blk_new _ _, (by repeat (first | assumption | (with_reducible apply below_alloc) | (with_reducible apply pw_below_drewN) | (with_reducible apply below_drew) | (with_reducible apply Below.refl) | (with_reducible refine bw_set ?_ (by first | (dsimp only; omega) | omega | (simp; done) | (simp; omega)) _)))⟩
  case round =>
    obtain ⟨i, sum, last, f, hn, hi, hsum, hlast, rfl, rfl, hf, HF, hc, hb⟩ := hrel
    obtain ⟨f, rfl⟩ : ∃ m, f = m + 1 := ⟨f - 1, by omega⟩
    rw [spanF_step f s i sum last hi] at HF
    have hj := scan_le digitB s i hi
    have hg := scan_ge digitB s i
    obtain ⟨j, hjd⟩ : ∃ j, j = scan digitB s i := ⟨_, rfl⟩
    rw [← hjd] at HF hj hg
    have HJ := Lib.hid hjd
    clear hjd
    have hc0 := hc
    have ca := blk_cell hc 0; have cb := blk_cell hc 1; have cc := blk_cell hc 2; have cx := blk_frozen hc 0; have cy := blk_frozen hc 1; have cz := blk_frozen hc 2; have cl := blk_lt hc
    go_upto_block 2 with fail
    go_cut [] (fun wx => CAt wx w.heap.size s j false ∧ Below w.heap.size w wx)
    case first =>
      go_wp2_with fail
      go_loopg [] (s.size - i) (fun n wr => ∃ k : Nat, n = s.size - k ∧ k ≤ s.size ∧ Hid (scan digitB s k = scan digitB s i) ∧ CAt wr w.heap.size s k false ∧ Below w.heap.size w wr)
      case atStart => exact ⟨i, rfl, hi, rfl, hc0, hb⟩
      case round =>
        obtain ⟨k, hn, hk, HS, hk0, hk2⟩ := hrel
        have hk1 := hk0
        clear ca cb cc cx cy cz cl
        have ca := blk_cell hk0 0; have cb := blk_cell hk0 1; have cc := blk_cell hk0 2; have cx := blk_frozen hk0 0; have cy := blk_frozen hk0 1; have cz := blk_frozen hk0 2; have cl := blk_lt hk0
        by_cases hlt : k < s.size
        · by_cases hd : digitB s[k] = true
          · have HD := Lib.hid hd
            simp only [digitB, Bool.and_eq_true, decide_eq_true_eq] at hd
            have a1 : 48 ≤ (s[k].toNat : Int) := by omega
            have a2 : (s[k].toNat : Int) ≤ 57 := by omega
            clear hd
            go_wp2
            go_roundg (s.size - (k + 1))
            case rel => exact ⟨k + 1, rfl, by omega, (scan_step hlt HD.out).trans HS, blk_set hk1 1 _, (by repeat (first | assumption | (with_reducible apply below_alloc) | (with_reducible apply pw_below_drewN) | (with_reducible apply below_drew) | (with_reducible apply Below.refl) | (with_reducible refine bw_set ?_ (by first | (dsimp only; omega) | omega | (simp; done) | (simp; omega)) _)))⟩
            case measure => omega
          · have HD := Lib.hid hd
            by_cases c1 : (s[k].toNat : Int) < 48
            · go_wp2
              go_meet
              exact ⟨by rw [HJ.out, ← HS.out, scan_stop hlt (by simpa using HD.out)]; exact hk1, (by repeat (first | assumption | (with_reducible apply below_alloc) | (with_reducible apply pw_below_drewN) | (with_reducible apply below_drew) | (with_reducible apply Below.refl) | (with_reducible refine bw_set ?_ (by first | (dsimp only; omega) | omega | (simp; done) | (simp; omega)) _)))⟩
            · have c2 : 57 < (s[k].toNat : Int) := by simp [digitB] at hd; omega
              clear hd
              go_wp2
              go_meet
              exact ⟨by rw [HJ.out, ← HS.out, scan_stop hlt (by simpa using HD.out)]; exact hk1, (by repeat (first | assumption | (with_reducible apply below_alloc) | (with_reducible apply pw_below_drewN) | (with_reducible apply below_drew) | (with_reducible apply Below.refl) | (with_reducible refine bw_set ?_ (by first | (dsimp only; omega) | omega | (simp; done) | (simp; omega)) _)))⟩
        · go_wp2
          go_meet
          exact ⟨by rw [HJ.out, ← HS.out, scan_end (by omega)]; exact hk1, (by repeat (first | assumption | (with_reducible apply below_alloc) | (with_reducible apply pw_below_drewN) | (with_reducible apply below_drew) | (with_reducible apply Below.refl) | (with_reducible refine bw_set ?_ (by first | (dsimp only; omega) | omega | (simp; done) | (simp; omega)) _)))⟩
    case rest =>
      obtain ⟨hc1, hb1⟩ := hcut
      clear ca cb cc cx cy cz cl hc hc0 hb
      have hc0 := hc1
      have ca := blk_cell hc1 0; have cb := blk_cell hc1 1; have cc := blk_cell hc1 2; have cx := blk_frozen hc1 0; have cy := blk_frozen hc1 1; have cz := blk_frozen hc1 2; have cl := blk_lt hc1
      by_cases c1 : j = i
      · have h0 : spanOf s = none := by rw [← HF.out, if_pos (.inl c1)]
        have a1 : ((j : Int) == i) = true := by simp [c1]
        have H0 := Lib.hid h0
        clear h0 HF
        have C1 := Lib.hid c1
        clear c1
        go_wp2_with fail
        go_ret2
        exact ⟨by rw [← spanN_none H0.out, ← spanE_none H0.out]; rfl, (by repeat (first | assumption | (with_reducible apply below_alloc) | (with_reducible apply pw_below_drewN) | (with_reducible apply below_drew) | (with_reducible apply Below.refl) | (with_reducible refine bw_set ?_ (by first | (dsimp only; omega) | omega | (simp; done) | (simp; omega)) _)))⟩
      have a1 : ((j : Int) == i) = false := by simp; omega
      by_cases c2 : 15 < j - i
      · have h0 : spanOf s = none := by rw [← HF.out, if_pos (.inr (.inl c2))]
        have H0 := Lib.hid h0
        clear h0 HF
        have a2 : 15 < (j : Int) - i := by omega
        go_wp2_with fail
        go_ret2
        exact ⟨by rw [← spanN_none H0.out, ← spanE_none H0.out]; rfl, (by repeat (first | assumption | (with_reducible apply below_alloc) | (with_reducible apply pw_below_drewN) | (with_reducible apply below_drew) | (with_reducible apply Below.refl) | (with_reducible refine bw_set ?_ (by first | (dsimp only; omega) | omega | (simp; done) | (simp; omega)) _)))⟩
      have a2 : (j : Int) - i ≤ 15 := by omega
      have hlt : i < s.size := by omega
      have hh : (s.data.toList.drop i).head? = some s[i] := by rw [drop_at s i hlt]; rfl
      by_cases c3 : s[i].toNat = 48
      · have h0 : spanOf s = none := by rw [← HF.out, if_pos (.inr (.inr (by rw [hh, ← UInt8.toNat_inj.1 (show s[i].toNat = (48 : UInt8).toNat from c3)])))]
        have a3 : ((s[i].toNat : Int) == 48) = true := by simp [c3]
        have H0 := Lib.hid h0
        clear h0 HF hh
        go_wp2_with fail
        go_ret2
        exact ⟨by rw [← spanN_none H0.out, ← spanE_none H0.out]; rfl, (by repeat (first | assumption | (with_reducible apply below_alloc) | (with_reducible apply pw_below_drewN) | (with_reducible apply below_drew) | (with_reducible apply Below.refl) | (with_reducible refine bw_set ?_ (by first | (dsimp only; omega) | omega | (simp; done) | (simp; omega)) _)))⟩
      have a3 : ((s[i].toNat : Int) == 48) = false := by simp; omega
      rw [if_neg (fun h => h.elim c1 (fun h => h.elim c2 (fun h => by rw [hh] at h; injection h with h; exact c3 (by rw [h]; rfl))))] at HF
      have hij : i < j := by omega
      clear hh c3 c2 c1
      have hx : (s.extract i j).size = j - i := by rw [ByteArray.size_extract]; omega
      have hdg : (s.extract i j).data.toList.all digitB = true := by
        rw [HJ.out, ← scan_take _ _ _ hi]; exact List.all_takeWhile
      obtain ⟨N, hN⟩ : ∃ N, N = numL (s.extract i j).data.toList := ⟨_, rfl⟩
      have hN15 : N ≤ 999999999999999 := by
        have h1 := numL_lt _ _ rfl hdg
        rw [ext_len _ _ _ hj] at h1
        have h2 : 10 ^ (j - i) ≤ 10 ^ 15 := Nat.pow_le_pow_right (by omega) (by omega)
        omega
      have hat := atoi_calls (s.extract i j) (by omega) (by omega) hdg
      rw [← hN] at hat HF
      have HAT := Lib.hid hat
      have HN := Lib.hid hN
      clear hat hN hx hdg
      go_upto_block 4 with (first | (go_at_call 105; refine (HAT.out _).mono ?_; rintro e w1 ⟨rfl, hB⟩; have hc2 := blk_below hc0 hB; have hb2 := bw_trans hb1 hB) | (go_at_call 106; refine (units_calls _).mono ?_; rintro e w2 ⟨rfl, rfl⟩))
      have l1 := blk_lt hc2
      go_cut [10] (fun v wx => USt (unitOf (s.data.toList.drop j)) v wx w.heap.size s j ∧ Below w.heap.size w wx)
      case first =>
        go_wp2_with fail
        go_loopg [10, 86] 5 (fun n v q wr => ∃ k : Nat, n = 5 - k ∧ k ≤ 5 ∧ q = .int .i64 k ∧ USt ((unitsL.take k).find? fun u => preB u.1 (s.data.toList.drop j)) v wr w.heap.size s j ∧ Below w.heap.size w wr ∧ wr.heap[w1.heap.size]? = some (.cells unitCells 148 (0, 0)))
        case atStart => exact ⟨0, rfl, by omega, rfl, ⟨rfl, blk_alloc hc2 _⟩, (by repeat (first | assumption | (with_reducible apply below_alloc) | (with_reducible apply pw_below_drewN) | (with_reducible apply below_drew) | (with_reducible apply Below.refl) | (with_reducible refine bw_set ?_ (by first | (dsimp only; omega) | omega | (simp; done) | (simp; omega)) _))), blk_new _ _⟩
        case round =>
          obtain ⟨k, hn, hk, rfl, HU, hb3, hU⟩ := hrel
          by_cases hlt : k < 5
          · obtain ⟨u, hu⟩ : ∃ u, u = unitsL.getD k (dT, 0) := ⟨_, rfl⟩
            have q1 := (blk_cell hU (k * 2)).trans (unit_cell k hlt).1
            have q2 := (blk_cell hU (k * 2 + 1)).trans (unit_cell k hlt).2
            have hf := find_snoc (fun u => preB u.1 (s.data.toList.drop j)) unitsL k (dT, 0) hlt
            rw [← hu] at q1 q2 hf
            have HFD := Lib.hid hf
            have HUU := Lib.hid hu
            clear hf hu
            cases hfo : (unitsL.take k).find? (fun u => preB u.1 (s.data.toList.drop j)) with
            | some u0 =>
              rw [hfo] at HU HFD
              obtain ⟨rfl, hc3, hl3, hu1⟩ := HU
              have a5 : ((u0.2 : Int) == 0) = false := by simp; omega
              go_wp2_with fail
              go_roundg (5 - (k + 1))
              case rel => exact ⟨k + 1, rfl, by omega, rfl, by rw [HFD.out]; exact ⟨rfl, hc3.al _, hl3, hu1⟩, (by repeat (first | assumption | (with_reducible apply below_alloc) | (with_reducible apply pw_below_drewN) | (with_reducible apply below_drew) | (with_reducible apply Below.refl) | (with_reducible refine bw_set ?_ (by first | (dsimp only; omega) | omega | (simp; done) | (simp; omega)) _))), (by repeat (first | (with_reducible exact hU) | (with_reducible apply blk_alloc) | (with_reducible apply blk_drewN) | (with_reducible apply blk_drew) | (with_reducible apply blk_set) | (with_reducible refine blk_far ?_ (by first | (dsimp only; omega) | omega | (simp; done) | (simp; omega)) _)))⟩
              case measure => omega
            | none =>
              rw [hfo] at HU HFD
              obtain ⟨rfl, hc3⟩ := HU
              have l3 := blk_lt hc3
              cases hp : preB u.1 (s.data.toList.drop j) with
              | true =>
                have HT := Lib.hid hp
                have hl3 := preB_le hp hj
                rw [hp] at HFD
                clear hp
                have hu1 : 1 ≤ u.2 := by rw [HUU.out]; have : k = 0 ∨ k = 1 ∨ k = 2 ∨ k = 3 ∨ k = 4 := by omega
                                         rcases this with rfl | rfl | rfl | rfl | rfl <;> decide
                go_wp2_with (go_at_call 107; refine (takes_yes HT.out hj hs _ (hc3.al _)).mono ?_; rintro e w4 ⟨rfl, hc4, hg4⟩; have hb4 := blk_grown (blk_new wr (.cells #[.string u.1, .int .i64 u.2] 148)) hg4 (by intro e; injection e with e; omega); have z1 := blk_cell hb4 1)
                go_roundg (5 - (k + 1))
                case rel => exact ⟨k + 1, rfl, by omega, rfl, by rw [HFD.out]; exact ⟨rfl, hc4, hl3, hu1⟩, bw_trans_new (below_alloc hb3 _) hg4 (Nat.le_refl _), blk_grown (blk_alloc hU _) hg4 (by intro e; injection e with e; omega)⟩
                case measure => omega
              | false =>
                have HT := Lib.hid hp
                rw [hp] at HFD
                clear hp
                go_wp2_with (go_at_call 107; refine (takes_no HT.out hj hs _ (hc3.al _)).mono ?_; rintro e w4 ⟨rfl, hc4, hg4⟩)
                go_roundg (5 - (k + 1))
                case rel => exact ⟨k + 1, rfl, by omega, rfl, by rw [HFD.out]; exact ⟨rfl, hc4⟩, bw_trans_new (below_alloc hb3 _) hg4 (Nat.le_refl _), blk_grown (blk_alloc hU _) hg4 (by intro e; injection e with e; omega)⟩
                case measure => omega
          · obtain rfl : k = 5 := by omega
            go_wp2_with fail
            go_meet
            exact ⟨HU, hb3⟩
      case rest =>
        obtain ⟨HU, hb3⟩ := hcut
        cases hu : unitOf (s.data.toList.drop j) with
        | none =>
          have h0 : spanOf s = none := by rw [← HF.out, hu]
          have H0 := Lib.hid h0
          rw [hu] at HU
          clear h0 HF hu
          obtain ⟨rfl, hc3⟩ := HU
          go_wp2_with fail
          go_ret2
          exact ⟨by rw [← spanN_none H0.out, ← spanE_none H0.out]; rfl, (by repeat (first | assumption | (with_reducible apply below_alloc) | (with_reducible apply pw_below_drewN) | (with_reducible apply below_drew) | (with_reducible apply Below.refl) | (with_reducible refine bw_set ?_ (by first | (dsimp only; omega) | omega | (simp; done) | (simp; omega)) _)))⟩
        | some u =>
          rw [hu] at HF HU
          have hu2 := unitOf_spec hu
          clear hu
          obtain ⟨rfl, hc3, hl3, hu1⟩ := HU
          obtain ⟨_, _, hu3, hu4⟩ := hu2
          have a6 : ((u.2 : Int) == 0) = false := by simp; omega
          have da := blk_cell hc3 0; have db := blk_cell hc3 1; have dc := blk_cell hc3 2; have dx := blk_frozen hc3 0; have dy := blk_frozen hc3 1; have dz := blk_frozen hc3 2; have dl := blk_lt hc3
          by_cases c1 : last ≤ u.2
          · have h0 : spanOf s = none := by rw [← HF.out]; dsimp only; rw [if_pos (.inl c1)]
            have H0 := Lib.hid h0
            clear h0 HF
            go_wp2_with fail
            go_ret2
            exact ⟨by rw [← spanN_none H0.out, ← spanE_none H0.out]; rfl, (by repeat (first | assumption | (with_reducible apply below_alloc) | (with_reducible apply pw_below_drewN) | (with_reducible apply below_drew) | (with_reducible apply Below.refl) | (with_reducible refine bw_set ?_ (by first | (dsimp only; omega) | omega | (simp; done) | (simp; omega)) _)))⟩
          have c1' : (u.2 : Int) < last := by omega
          have hdv : ((253402300799999 - sum) / u.2 : Nat) = ((253402300799999 - (sum : Int)) / u.2) := by
            rw [Int.natCast_ediv]; congr 1; omega
          by_cases c2 : (253402300799999 - sum) / u.2 < N
          · have h0 : spanOf s = none := by rw [← HF.out]; dsimp only; rw [if_pos (.inr c2)]
            have H0 := Lib.hid h0
            have c3 : (253402300799999 - (sum : Int)) / u.2 < N := by omega
            clear h0 HF hdv
            go_wp2_with fail
            go_ret2
            exact ⟨by rw [← spanN_none H0.out, ← spanE_none H0.out]; rfl, (by repeat (first | assumption | (with_reducible apply below_alloc) | (with_reducible apply pw_below_drewN) | (with_reducible apply below_drew) | (with_reducible apply Below.refl) | (with_reducible refine bw_set ?_ (by first | (dsimp only; omega) | omega | (simp; done) | (simp; omega)) _)))⟩
          have c3 : N ≤ (253402300799999 - (sum : Int)) / u.2 := by omega
          clear hdv
          have hm : N * u.2 ≤ 253402300799999 - sum := (Nat.le_div_iff_mul_le (by omega)).1 (by omega)
          obtain ⟨M, hM⟩ : ∃ M, M = N * u.2 := ⟨_, rfl⟩
          rw [← hM] at hm
          have hm2 : M ≤ 253402300799999 ∧ sum + M ≤ 253402300799999 := ar_sub hm hsum
          have hw1 : wrap64 ((N : Int) * u.2) = M := (wr64m (by rw [← hM]; exact le_i64 hm2.1)).trans (by rw [hM])
          dsimp only at HF
          rw [if_neg (by omega), ← hM] at HF
          obtain ⟨T, hT⟩ : ∃ T, T = sum + M := ⟨_, rfl⟩
          have hw2 : wrap64 ((sum : Int) + M) = T := (wr64n (le_i64 hm2.2)).trans (by rw [hT])
          have hTb : T ≤ 253402300799999 := by rw [hT]; exact hm2.2
          rw [← hT] at HF
          clear hM hT c2 c1
          have hme : s.size + 1 - (j + u.1.size) < s.size + 1 - i ∧ s.size + 1 - (j + u.1.size) ≤ f := by omega
          clear HAT HN HJ hN15 hm hm2 hij hg hu3 hu4 hc1 hb1 ca cb cc cx cy cz cl l1 hc0 hc2 hb2
          by_cases c4 : j + u.1.size = s.size
          · rw [if_pos c4] at HF
            have h4 : decide (j + u.1.size = s.size) = true := by simp [c4]
            have H4 := Lib.hid h4
            clear h4
            have C4 := Lib.hid c4
            clear c4
            go_wp2_with (go_at_call 108; refine (end_calls _ s _ false _ hc3).mono ?_; rintro e w4 ⟨rfl, n4, rfl⟩; rw [H4.out])
            go_ret2
            exact ⟨by rw [← spanN_some HF.out.symm, ← spanE_some HF.out.symm]; rfl, (by repeat (first | assumption | (with_reducible apply below_alloc) | (with_reducible apply pw_below_drewN) | (with_reducible apply below_drew) | (with_reducible apply Below.refl) | (with_reducible refine bw_set ?_ (by first | (dsimp only; omega) | omega | (simp; done) | (simp; omega)) _)))⟩
          · rw [if_neg c4] at HF
            have h4 : decide (j + u.1.size = s.size) = false := by simp [c4]
            have H4 := Lib.hid h4
            clear h4 c4
            go_wp2_with (go_at_call 108; refine (end_calls _ s _ false _ hc3).mono ?_; rintro e w4 ⟨rfl, n4, rfl⟩; rw [H4.out])
            go_roundg (s.size + 1 - (j + u.1.size))
            case rel => exact ⟨j + u.1.size, T, u.2, f, rfl, hl3, hTb, by omega, rfl, rfl, hme.2, HF, hc3, (by repeat (first | assumption | (with_reducible apply below_alloc) | (with_reducible apply pw_below_drewN) | (with_reducible apply below_drew) | (with_reducible apply Below.refl) | (with_reducible refine bw_set ?_ (by first | (dsimp only; omega) | omega | (simp; done) | (simp; omega)) _)))⟩
            case measure => omega
end Go.Proofs.YtjcnjpljngabfaaGreatDoor
