import Derived.Test.YtjcnjpljngabfaaGreatDoorP6
namespace Go.Proofs.YtjcnjpljngabfaaGreatDoor
open Go.RowKit Go.Proofs.YtjcnjpljngabfaaGreatDoorW.PrintWords
set_option linter.unusedVariables false
/-- a list of texts that is read, or nil -/
def AhR (w : World) (v : Value) (o : Option (List BA)) : Prop :=
  match o with
  | none => v = .slice none 0 0
  | some l => ∃ ad c, v = .slice (some ad) l.length c ∧ Kd.string.C w (some ad) l.length l
def namesUpto (l : List BA) (i : Nat) : Prop := namesOk [] l = namesOk (l.take i) (l.drop i)
theorem namesUpto_step {l : List BA} {i : Nat} (h : namesUpto l i) (hi : i < l.length) (hn : isName (l.getD i ByteArray.empty) = true) (hh : hasT (l.take i) (l.getD i ByteArray.empty) = false) : namesUpto l (i + 1) := by
  have e : l.getD i ByteArray.empty = l[i] := by rw [List.getD_eq_getElem?_getD, List.getElem?_eq_getElem hi]; rfl
  rw [e] at hn hh
  unfold namesUpto at h ⊢
  rw [h, List.drop_eq_getElem_cons hi, namesOk, hn, hh, List.take_succ_eq_append_getElem hi]; rfl
theorem namesUpto_bad {l : List BA} {i : Nat} (h : namesUpto l i) (hi : i < l.length) (hn : isName (l.getD i ByteArray.empty) = false ∨ hasT (l.take i) (l.getD i ByteArray.empty) = true) : namesOk [] l = false := by
  have e : l.getD i ByteArray.empty = l[i] := by rw [List.getD_eq_getElem?_getD, List.getElem?_eq_getElem hi]; rfl
  rw [e] at hn
  unfold namesUpto at h
  rw [h, List.drop_eq_getElem_cons hi, namesOk]
  rcases hn with hn | hn <;> rw [hn] <;> simp
theorem namesUpto_end {l : List BA} (h : namesUpto l l.length) : namesOk [] l = true := by
  unfold namesUpto at h
  rw [h, List.drop_length]; rfl
set_option maxRecDepth 100000 in
set_option maxHeartbeats 4000000 in
theorem may_calls (x : Stg) (A : Option Addr) (c : Nat) (va : Value) (ahead : Option (List BA)) (w : World) (hC : Kd.string.C w A x.names.length x.names) (hcap : x.names.length ≤ c) (hsz : ∀ y ∈ x.names, y.size ≤ 140737488351232) (ha : AhR w va ahead) :
    Calls Tryz.prog 61 #[.agg #[.int .i64 x.kind, .int .i64 x.n, .slice A x.names.length c], va] w fun e w' => e = .returned (.bool (mayS ahead x)) ∧ Below w.heap.size w w' := by
  obtain ⟨kd, n, l⟩ := x
  simp only at hC hcap hsz ⊢
  have hmx := Kd.C_max hC
  have HC := Lib.hid hC
  have HSZ := Lib.hid hsz
  clear hC hsz
  go_enter Tryz.func61, Tryz.ntmps61
  have hb0 := blk_new w (.cells #[.int .i64 kd, .int .i64 n, .slice A l.length c] 43 (0, 0))
  have xa := blk_cell hb0 0; have xb := blk_cell hb0 1; have xc := blk_cell hb0 2; have xx := blk_frozen hb0 0; have xy := blk_frozen hb0 1; have xz := blk_frozen hb0 2; have xl := blk_lt hb0
  by_cases hk1 : kd < 1
  · have HM : Hid (mayS ahead ⟨kd, n, l⟩ = false) := Lib.hid (by simp [mayS, goodS]; omega)
    go_wp2_with fail
    go_ret
    rw [HM.out]
    exact ⟨rfl, (by repeat (first | assumption | (with_reducible apply below_alloc) | (with_reducible apply pw_below_drewN) | (with_reducible apply below_drew) | (with_reducible apply Below.refl) | (with_reducible refine bw_set ?_ (by first | (dsimp only; omega) | omega | (simp; done) | (simp; omega)) _)))⟩
  by_cases hk2 : 13 < kd
  · have HM : Hid (mayS ahead ⟨kd, n, l⟩ = false) := Lib.hid (by simp [mayS, goodS]; omega)
    go_wp2_with fail
    go_ret
    rw [HM.out]
    exact ⟨rfl, (by repeat (first | assumption | (with_reducible apply below_alloc) | (with_reducible apply pw_below_drewN) | (with_reducible apply below_drew) | (with_reducible apply Below.refl) | (with_reducible refine bw_set ?_ (by first | (dsimp only; omega) | omega | (simp; done) | (simp; omega)) _)))⟩
  obtain ⟨k, rfl⟩ : ∃ k : Nat, kd = k := ⟨kd.toNat, by omega⟩
  obtain ⟨gd, hgd⟩ : ∃ b, (decide ((bnd k).1 ≤ n) && decide (n ≤ (bnd k).2.1) && decide ((bnd k).2.2.1 ≤ l.length) && decide ((l.length : Int) ≤ (bnd k).2.2.2)) = b := ⟨_, rfl⟩
  have HGD := Lib.hid hgd
  clear hgd
  have HM : Hid (mayS ahead ⟨k, n, l⟩ = (gd && namesOk [] l && behindS ahead ⟨k, n, l⟩)) := Lib.hid (by
    rw [← HGD.out, mayS, goodS]
    have e1 : decide (1 ≤ (k : Int)) = true := by simp; omega
    have e2 : decide ((k : Int) ≤ 13) = true := by simp; omega
    simp only [e1, e2, Bool.true_and])
  go_upto_region 4 with (go_at_call 77; refine (bounds_calls _ _).mono ?_; rintro e w4 ⟨rfl, rfl⟩)
  go_cut [50] (fun v wx => v = .bool (!gd) ∧ wx = w.alloc (.cells #[.int .i64 k, .int .i64 n, .slice A l.length c] 43 (0, 0)))
  case first =>
    by_cases b1 : (bnd k).1 ≤ n
    · by_cases b2 : n ≤ (bnd k).2.1
      · by_cases b3 : (bnd k).2.2.1 ≤ l.length
        · by_cases b4 : (l.length : Int) ≤ (bnd k).2.2.2
          · go_wp2_with fail
            go_meet
            exact ⟨by rw [← HGD.out]; simp [b1, b2, b3, b4], rfl⟩
          · have b4' : (bnd k).2.2.2 < l.length := by omega
            go_wp2_with fail
            go_meet
            exact ⟨by rw [← HGD.out]; simp [b4], rfl⟩
        · have b3' : (l.length : Int) < (bnd k).2.2.1 := by omega
          go_wp2_with fail
          go_meet
          exact ⟨by rw [← HGD.out]; simp [b3], rfl⟩
      · have b2' : (bnd k).2.1 < n := by omega
        go_wp2_with fail
        go_meet
        exact ⟨by rw [← HGD.out]; simp [b2], rfl⟩
    · have b1' : n < (bnd k).1 := by omega
      go_wp2_with fail
      go_meet
      exact ⟨by rw [← HGD.out]; simp [b1], rfl⟩
  case rest =>
    obtain ⟨rfl, rfl⟩ := hcut
    cases gd with
    | false =>
      have HM2 : Hid (mayS ahead ⟨k, n, l⟩ = false) := Lib.hid (by rw [HM.out]; rfl)
      go_wp2_with fail
      go_ret
      rw [HM2.out]
      exact ⟨rfl, (by repeat (first | assumption | (with_reducible apply below_alloc) | (with_reducible apply pw_below_drewN) | (with_reducible apply below_drew) | (with_reducible apply Below.refl) | (with_reducible refine bw_set ?_ (by first | (dsimp only; omega) | omega | (simp; done) | (simp; omega)) _)))⟩
    | true =>
      go_upto_block 0 with fail
      go_cut [] (fun wx => Hid (namesOk [] l = true) ∧ wx = w.alloc (.cells #[.int .i64 k, .int .i64 n, .slice A l.length c] 43 (0, 0)))
      case first =>
        go_wp2_with fail
        go_loopg [54] l.length (fun m v wr => ∃ i : Nat, m = l.length - i ∧ i ≤ l.length ∧ v = .int .i64 i ∧ Hid (namesUpto l i) ∧ wr = w.alloc (.cells #[.int .i64 k, .int .i64 n, .slice A l.length c] 43 (0, 0)))
        case atStart => exact ⟨0, rfl, Nat.zero_le _, rfl, Lib.hid rfl, rfl⟩
        case round =>
          obtain ⟨i, hm, hi, rfl, HU, rfl⟩ := hrel
          by_cases hlt : i < l.length
          · obtain ⟨b, off, rfl, hcell⟩ := strs_plain HC.out (by omega)
            have hci := hcell i hlt
            obtain ⟨y, hy⟩ : ∃ y, l.getD i ByteArray.empty = y := ⟨_, rfl⟩
            rw [hy] at hci
            have hys : y.size ≤ 140737488351232 := HSZ.out y (by rw [← hy, List.getD_eq_getElem?_getD, List.getElem?_eq_getElem hlt]; exact List.getElem_mem hlt)
            have HY := Lib.hid hy
            have hlt' : (i : Int) < l.length := by omega
            have hci := pw_cell_below (below_alloc (Below.refl _ _) (.cells #[.int .i64 k, .int .i64 n, .slice (some ⟨b, off, none⟩) l.length c] 43 (0, 0))) hci
            have hcn := contains_calls (some ⟨b, off, none⟩) c (l.take i) y (w.alloc (.cells #[.int .i64 k, .int .i64 n, .slice (some ⟨b, off, none⟩) l.length c] 43 (0, 0))) (Kd.C_take (Kd.C_alloc HC.out _) hi)
            rw [show (l.take i).length = i by simp; omega] at hcn
            have HCN := Lib.hid hcn
            have hic : (i : Int) ≤ c := by omega
            clear hcell hy hcn hi hlt
            cases hnm : isName y with
            | false =>
              have HNM := Lib.hid hnm
              have HM2 : Hid (mayS ahead ⟨k, n, l⟩ = false) := Lib.hid (by rw [HM.out, namesUpto_bad HU.out (by omega) (.inl (by rw [HY.out]; exact hnm))]; simp)
              clear hnm
              go_wp2_with (go_at_call 78; go_must (refine (Name_calls _ hys _).mono ?_; rintro e w5 ⟨rfl, rfl⟩; rw [HNM.out]))
              go_ret
              rw [HM2.out]
              exact ⟨rfl, (by repeat (first | assumption | (with_reducible apply below_alloc) | (with_reducible apply pw_below_drewN) | (with_reducible apply below_drew) | (with_reducible apply Below.refl) | (with_reducible refine bw_set ?_ (by first | (dsimp only; omega) | omega | (simp; done) | (simp; omega)) _)))⟩
            | true =>
              have HNM := Lib.hid hnm
              cases hh : hasT (l.take i) y with
              | true =>
                have HH := Lib.hid hh
                have HM2 : Hid (mayS ahead ⟨k, n, l⟩ = false) := Lib.hid (by rw [HM.out, namesUpto_bad HU.out (by omega) (.inr (by rw [HY.out]; exact hh))]; simp)
                clear hnm hh
                go_wp2_with (first | (go_at_call 78; go_must (refine (Name_calls _ hys _).mono ?_; rintro e w5 ⟨rfl, rfl⟩; rw [HNM.out])) | (go_at_call 79; go_must (refine HCN.out.mono ?_; rintro e w6 ⟨rfl, rfl⟩; rw [HH.out])))
                go_ret
                rw [HM2.out]
                exact ⟨rfl, (by repeat (first | assumption | (with_reducible apply below_alloc) | (with_reducible apply pw_below_drewN) | (with_reducible apply below_drew) | (with_reducible apply Below.refl) | (with_reducible refine bw_set ?_ (by first | (dsimp only; omega) | omega | (simp; done) | (simp; omega)) _)))⟩
              | false =>
                have HH := Lib.hid hh
                have HU2 := Lib.hid (namesUpto_step HU.out (by omega) (by rw [HY.out]; exact hnm) (by rw [HY.out]; exact hh))
                clear hnm hh
                go_wp2_with (first | (go_at_call 78; go_must (refine (Name_calls _ hys _).mono ?_; rintro e w5 ⟨rfl, rfl⟩; rw [HNM.out])) | (go_at_call 79; go_must (refine HCN.out.mono ?_; rintro e w6 ⟨rfl, rfl⟩; rw [HH.out])))
                go_roundg (l.length - (i + 1))
                case rel => exact ⟨i + 1, rfl, by omega, by simp, HU2, rfl⟩
                case measure => omega
          · have e : i = l.length := by omega
            have HE := Lib.hid (namesUpto_end (e ▸ HU.out))
            have hlt' : (l.length : Int) ≤ i := by omega
            go_wp2_with fail
            go_meet
            exact ⟨HE, rfl⟩
      case rest =>
        obtain ⟨HE, rfl⟩ := hcut
        cases ahead with
        | none =>
          obtain rfl : va = .slice none 0 0 := ha
          have hq := fun W => Lib.run_eql_slice_nil (P := Tryz.prog) W 41 9 none 0 0 0 0 Tryz.underlying41
          have HM2 : Hid (mayS none ⟨k, n, l⟩ = true) := Lib.hid (by rw [HM.out, HE.out]; rfl)
          go_wp2_with fail
          go_ret
          rw [HM2.out]
          exact ⟨rfl, (by repeat (first | assumption | (with_reducible apply below_alloc) | (with_reducible apply pw_below_drewN) | (with_reducible apply below_drew) | (with_reducible apply Below.refl) | (with_reducible refine bw_set ?_ (by first | (dsimp only; omega) | omega | (simp; done) | (simp; omega)) _)))⟩
        | some l2 =>
          obtain ⟨ad, c2, rfl, hC2⟩ := ha
          have HC2 := Lib.hid hC2
          clear hC2
          have hq := fun W => Lib.run_eql_slice_nil (P := Tryz.prog) W 41 9 (some ad) l2.length c2 0 0 Tryz.underlying41
          by_cases h9 : k = 9
          · have z9 : ((k : Int) == 9) = true := by simp [h9]
            have HM2 : Hid (mayS (some l2) ⟨k, n, l⟩ = true) := Lib.hid (by rw [HM.out, HE.out]; simp [behindS, h9])
            clear h9
            go_wp2_with fail
            go_ret
            rw [HM2.out]
            exact ⟨rfl, (by repeat (first | assumption | (with_reducible apply below_alloc) | (with_reducible apply pw_below_drewN) | (with_reducible apply below_drew) | (with_reducible apply Below.refl) | (with_reducible refine bw_set ?_ (by first | (dsimp only; omega) | omega | (simp; done) | (simp; omega)) _)))⟩
          by_cases h10 : k = 10
          · have z9 : ((k : Int) == 9) = false := by simp; omega
            have z10 : ((k : Int) == 10) = true := by simp [h10]
            have HM2 : Hid (mayS (some l2) ⟨k, n, l⟩ = true) := Lib.hid (by rw [HM.out, HE.out]; simp [behindS, h10])
            clear h9 h10
            go_wp2_with fail
            go_ret
            rw [HM2.out]
            exact ⟨rfl, (by repeat (first | assumption | (with_reducible apply below_alloc) | (with_reducible apply pw_below_drewN) | (with_reducible apply below_drew) | (with_reducible apply Below.refl) | (with_reducible refine bw_set ?_ (by first | (dsimp only; omega) | omega | (simp; done) | (simp; omega)) _)))⟩
          have z9 : ((k : Int) == 9) = false := by simp; omega
          have z10 : ((k : Int) == 10) = false := by simp; omega
          by_cases h13 : k = 13
          · have z13 : ((k : Int) == 13) = true := by simp [h13]
            have hl1 : l.length = 1 := by
              have h := HGD.out
              simp only [Bool.and_eq_true, decide_eq_true_eq] at h
              subst h13
              have b3 : (bnd ((13 : Nat) : Int)).2.2.1 = 1 := by decide
              have b4 : (bnd ((13 : Nat) : Int)).2.2.2 = 1 := by decide
              omega
            obtain ⟨b, off, rfl, hcell⟩ := strs_plain HC.out (by omega)
            have hc0 := hcell 0 (by omega)
            obtain ⟨y, hy⟩ : ∃ y, l.getD 0 ByteArray.empty = y := ⟨_, rfl⟩
            rw [hy] at hc0
            have hc0 := pw_cell_below (below_alloc (Below.refl _ _) (.cells #[.int .i64 k, .int .i64 n, .slice (some ⟨b, off, none⟩) l.length c] 43 (0, 0))) hc0
            have hc0 : (w.alloc (.cells #[.int .i64 k, .int .i64 n, .slice (some ⟨b, off, none⟩) l.length c] 43 (0, 0))).cell? ⟨b, off, none⟩ = some (.string y) := hc0
            have HM2 : Hid (mayS (some l2) ⟨k, n, l⟩ = hasT l2 y) := Lib.hid (by
              obtain ⟨y', rfl⟩ := one_name (l := l) (by omega) (by omega)
              have : y' = y := hy
              subst this
              rw [HM.out, HE.out]; simp [behindS, h13])
            have hlp : (0 : Int) < l.length := by omega
            clear h9 h10 h13 hcell hy hl1
            go_wp2_with (go_at_call 79; go_must (refine (contains_calls (some ad) c2 l2 y _ (Kd.C_alloc HC2.out _)).mono ?_; rintro e w6 ⟨rfl, rfl⟩))
            go_ret
            rw [HM2.out]
            exact ⟨rfl, (by repeat (first | assumption | (with_reducible apply below_alloc) | (with_reducible apply pw_below_drewN) | (with_reducible apply below_drew) | (with_reducible apply Below.refl) | (with_reducible refine bw_set ?_ (by first | (dsimp only; omega) | omega | (simp; done) | (simp; omega)) _)))⟩
          · have z13 : ((k : Int) == 13) = false := by simp; omega
            have HM2 : Hid (mayS (some l2) ⟨k, n, l⟩ = false) := Lib.hid (by rw [HM.out]; simp [behindS]; omega)
            clear h9 h10 h13
            go_wp2_with fail
            go_ret
            rw [HM2.out]
            exact ⟨rfl, (by repeat (first | assumption | (with_reducible apply below_alloc) | (with_reducible apply pw_below_drewN) | (with_reducible apply below_drew) | (with_reducible apply Below.refl) | (with_reducible refine bw_set ?_ (by first | (dsimp only; omega) | omega | (simp; done) | (simp; omega)) _)))⟩
end Go.Proofs.YtjcnjpljngabfaaGreatDoor
