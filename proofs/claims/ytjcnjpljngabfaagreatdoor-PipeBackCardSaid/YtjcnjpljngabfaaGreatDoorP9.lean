import Derived.Test.YtjcnjpljngabfaaGreatDoorP8
import Derived.Test.YtjcnjpljngabfaaGreatDoorS8
import Derived.Deep.RegionWith
import Derived.Lib.AppendIntMem
namespace Go.Proofs.YtjcnjpljngabfaaGreatDoor
open Go.RowKit Go.Proofs.YtjcnjpljngabfaaGreatDoorW.PrintWords
set_option linter.unusedVariables false
/-- the library's table of powers of ten lies as its initialiser lays it -/
def Tab10 (w : World) : Prop := Lib.TabIs Tryz.prog w "internal/strconv.uint64pow10" .u64 Lib.pow10Tab
theorem Tab10.below {w w1 : World} (h : Tab10 w) (hb : Below w.heap.size w w1) : Tab10 w1 := Lib.tabBelow_of_tabIs h w1 hb
theorem below_growN (w : World) (k : Nat) (os : Array Obj) : Below w.heap.size w (Sort.grow (w.drewN k) os) :=
  ⟨rfl, rfl, rfl, by simp [Sort.grow, World.drewN], fun i hi => by
    simp only [Sort.grow]
    rw [Array.getElem?_append_left (by exact hi)]; rfl⟩
theorem itoa_calls (n : Nat) (h : n ≤ 9223372036854775807) (w : World) (T : Tab10 w) :
    Calls Tryz.prog 60 #[.int .i64 n] w fun e w' => e = .returned (.string (numT n)) ∧ Below w.heap.size w w' := by
  refine (Tryz.strconv_Itoa n (by omega) (by omega) w T).mono ?_
  rintro e w' ⟨rfl, k, os, rfl⟩
  exact ⟨by rw [Lib.itoa_nonneg]; rfl, below_growN w k os⟩
theorem wr_nat {a : Nat} (h : a ≤ 253402300799999) : wrap64 (a : Int) = a := wr64 (by omega) (by omega)
def unitAt (j : Nat) : BA × Nat := unitsP.getD j (ByteArray.empty, 1)
theorem unitAt_le : ∀ j : Fin 5, 1 ≤ (unitAt j.val).2 ∧ (unitAt j.val).1.size ≤ 2 := by decide
theorem spell_drop {j : Nat} (hj : j < 5) (m : Nat) : spellF (unitsP.drop j) m = if (unitAt j).2 ≤ m then Lib.decDigits (m / (unitAt j).2) ++ ((unitAt j).1.data.toList ++ spellF (unitsP.drop (j + 1)) (m % (unitAt j).2)) else spellF (unitsP.drop (j + 1)) m := by
  have : unitsP.drop j = unitAt j :: unitsP.drop (j + 1) := by
    rw [List.drop_eq_getElem_cons (by simpa [unitsP] using hj), unitAt, List.getD_eq_getElem?_getD, List.getElem?_eq_getElem (by simpa [unitsP] using hj)]; rfl
  rw [this, spellF]
theorem is_calls (n : Int) (w : World) :
    Calls Tryz.prog 86 #[.int .i64 n] w fun e w' => e = .returned (.bool (decide (0 ≤ n) && decide (n ≤ 253402300799999))) ∧ w = w' := by
  go_enter Tryz.func86, Tryz.ntmps86
  go_wp2
  all_goals go_ret
  all_goals refine ⟨congrArg (fun b => Ending.returned (.bool b)) ?_, rfl⟩
  all_goals first | (simp [*]; done) | (simp; omega) | (rw [Bool.eq_iff_iff]; simp; omega)
set_option maxRecDepth 100000 in
set_option maxHeartbeats 4000000 in
theorem Spell_calls (n : Nat) (h1 : 1 ≤ n) (h2 : n ≤ 253402300799999) (w : World) (T : Tab10 w) :
    Calls Tryz.prog 59 #[.int .i64 n] w fun e w' => e = .returned (.tuple #[.string (spellT n), .int .i64 0]) ∧ Below w.heap.size w w' := by
  have HT := Lib.hid T
  clear T
  go_enter Tryz.func59, Tryz.ntmps59
  have h1' : (1 : Int) ≤ n := by omega
  have h2' : (n : Int) ≤ 253402300799999 := by omega
  have h0' : (0 : Int) ≤ n := by omega
  go_wp2_with (go_at_call 86; refine (is_calls _ _).mono ?_; rintro e w4 ⟨rfl, rfl⟩)
  go_loopg [0, 4, 21] 5 (fun m v0 v4 v21 wr => ∃ (j mm : Nat) (o : BA), m = 5 - j ∧ j ≤ 5 ∧ v21 = .int .i64 j ∧ v0 = .int .i64 mm ∧ v4 = .string o ∧ Hid (mm ≤ n) ∧ Hid (o.data.toList ++ spellF (unitsP.drop j) mm = spellF unitsP n) ∧ wr.heap[w.heap.size]? = some (.cells #[.string ⟨#[100]⟩, .int .i64 86400000, .string ⟨#[104]⟩, .int .i64 3600000, .string ⟨#[109]⟩, .int .i64 60000, .string ⟨#[115]⟩, .int .i64 1000, .string ⟨#[109, 115]⟩, .int .i64 1] 148 (0, 0)) ∧ Below w.heap.size w wr)
  case atStart => exact ⟨0, n, ⟨#[]⟩, rfl, by omega, rfl, rfl, rfl, Lib.hid (Nat.le_refl _), Lib.hid rfl, blk_new w _, (by repeat (first | assumption | (with_reducible apply below_alloc) | (with_reducible apply pw_below_drewN) | (with_reducible apply below_drew) | (with_reducible apply Below.refl) | (with_reducible refine bw_set ?_ (by first | (dsimp only; omega) | omega | (simp; done) | (simp; omega)) _)))⟩
  case round =>
    obtain ⟨j, mm, o, hm, hj, rfl, rfl, rfl, HM, HO, hb, hB⟩ := hrel
    clear h1' h2' h0' h1 
    by_cases hlt : j < 5
    · have hlt' : (j : Int) < 5 := by omega
      have hcc : wr.cell? ⟨w.heap.size, j * 2, none⟩ = some (.string (unitAt j).1) ∧ wr.cell? ⟨w.heap.size, j * 2 + 1, none⟩ = some (.int .i64 (unitAt j).2) := by
        have : j = 0 ∨ j = 1 ∨ j = 2 ∨ j = 3 ∨ j = 4 := by omega
        rcases this with rfl | rfl | rfl | rfl | rfl <;> exact ⟨(blk_cell hb _).trans rfl, (blk_cell hb _).trans rfl⟩
      obtain ⟨hc1, hc2⟩ := hcc
      have hul := unitAt_le ⟨j, hlt⟩
      have hsd := spell_drop hlt mm
      simp only at hul
      generalize unitAt j = u at hc1 hc2 hul hsd
      obtain ⟨un, us⟩ := u
      simp only at hc1 hc2 hul hsd
      have HUL := Lib.hid hul
      have tu := blk_new wr (.cells #[.string un, .int .i64 us] 148 (0, 0))
      have xa := blk_cell tu 0; have xb := blk_cell tu 1; have xx := blk_frozen tu 0; have xy := blk_frozen tu 1; have xl := blk_lt tu
      by_cases hle : us ≤ mm
      · have hle' : (us : Int) ≤ mm := by omega
        rw [if_pos hle] at hsd
        have HSD := Lib.hid hsd
        have hus : (us : Int) ≠ 0 := by omega
        obtain ⟨q, hq⟩ : ∃ q, mm / us = q := ⟨_, rfl⟩
        obtain ⟨rr, hrr⟩ : ∃ rr, mm % us = rr := ⟨_, rfl⟩
        have hqn : q ≤ n := by have := Nat.div_le_self mm us; have := HM.out; omega
        have hd : wrap64 ((mm : Int) / us) = (q : Int) := by rw [← Int.natCast_ediv, hq]; exact wr_nat (Nat.le_trans hqn h2)
        have hr : (mm : Int) % us = (rr : Int) := by rw [← Int.natCast_emod, hrr]
        have HQ : Hid (q ≤ 253402300799999) := Lib.hid (Nat.le_trans hqn h2)
        have HM2 : Hid (rr ≤ n) := Lib.hid (by have := Nat.mod_le mm us; have := HM.out; omega)
        have HO2 : Hid ((o ++ (numT q ++ un)).data.toList ++ spellF (unitsP.drop (j + 1)) rr = spellF unitsP n) := Lib.hid (by
          rw [← HO.out, HSD.out, hq, hrr, ByteArray.data_append, ByteArray.data_append, Array.toList_append, Array.toList_append, numT, tx_list]; simp)
        have hs0 : o.size ≤ 85 := by
          have h1 := congrArg List.length HO.out
          have h3 := spell_len unitsP n h2 (by decide)
          rw [List.length_append] at h1
          have h4 : unitsP.length = 5 := rfl
          have h5 : o.data.toList.length = o.size := rfl
          omega
        have hs3 := num_size (Nat.le_trans hqn h2)
        have hs1 : (numT q).size + un.size ≤ 9223372036854775807 := by omega
        have hs2 : o.size + ((numT q).size + un.size) ≤ 9223372036854775807 := by omega
        clear hsd hul hq hrr hqn hs3 hs0
        go_wp2_with fail
        go_region_with (go_at_call 60; refine (itoa_calls q (Nat.le_trans HQ.out (by decide)) _ (HT.out.below (below_drew (below_alloc hB _)))).mono ?_; rintro e w7 ⟨rfl, hB7⟩; have nu := blk_below (blk_drew tu) hB7; have nb := blk_below (blk_drew (blk_alloc hb (.cells #[.string un, .int .i64 us] 148 (0, 0)))) hB7; have nB := bw_trans (below_drew (below_alloc hB (.cells #[.string un, .int .i64 us] 148 (0, 0)))) hB7; clear xa xb xx xy xl; have xa := blk_cell nu 0; have xb := blk_cell nu 1; have xx := blk_frozen nu 0; have xy := blk_frozen nu 1; have xl := blk_lt nu)
        all_goals
          go_wp2_with fail
          go_roundg (5 - (j + 1))
          case rel => exact ⟨j + 1, rr, o ++ (numT q ++ un), rfl, by omega, by simp, by rw [hr], rfl, HM2, HO2, nb, nB⟩
          case measure => omega
      · have hle' : (mm : Int) < us := by omega
        rw [if_neg hle] at hsd
        have HO2 : Hid (o.data.toList ++ spellF (unitsP.drop (j + 1)) mm = spellF unitsP n) := Lib.hid (by rw [← hsd]; exact HO.out)
        clear hsd hul hle
        go_wp2_with fail
        go_roundg (5 - (j + 1))
        case rel => exact ⟨j + 1, mm, o, rfl, by omega, by simp, rfl, rfl, HM, HO2, blk_alloc hb _, (by repeat (first | assumption | (with_reducible apply below_alloc) | (with_reducible apply pw_below_drewN) | (with_reducible apply below_drew) | (with_reducible apply Below.refl) | (with_reducible refine bw_set ?_ (by first | (dsimp only; omega) | omega | (simp; done) | (simp; omega)) _)))⟩
        case measure => omega
    · have e : j = 5 := by omega
      subst e
      have hs := HO.out
      rw [show spellF (unitsP.drop 5) mm = [] from rfl, List.append_nil] at hs
      have HS : Hid (o = spellT n) := Lib.hid (by rw [spellT, ← hs]; rfl)
      clear hs
      go_wp2_with fail
      (try simp only [Exit.inBlock, Exit.then]); refine bodyPost_ret (results_list (rs := [.tmp _, .tmp _]) rfl (by simp) (.tmp (.tmp .nil))) rfl ?_
      rw [HS.out]
      exact ⟨rfl, hB⟩
end Go.Proofs.YtjcnjpljngabfaaGreatDoor
