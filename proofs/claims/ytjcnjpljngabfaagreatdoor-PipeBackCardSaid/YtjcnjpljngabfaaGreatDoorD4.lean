import Derived.Test.YtjcnjpljngabfaaGreatDoorD2
import Derived.Deep.RegionWith
namespace Go.Proofs.YtjcnjpljngabfaaGreatDoor
open Go.RowKit Go.Proofs.YtjcnjpljngabfaaGreatDoorW.PrintWords
set_option linter.unusedVariables false
set_option maxRecDepth 100000 in
set_option maxHeartbeats 8000000 in
theorem stage_head (r : RawS) (hr : RawIn r) (head : List BA) (hp : 0 < head.length) (hl : head.length ≤ 1000) (A : Option Addr) (c : Nat) (w : World) (hC : Kd.string.C w A head.length head) :
    Calls Tryz.prog 36 #[.agg #[.int .i64 r.kind, .int .i64 r.n, .int .i64 r.a, .int .i64 r.b], .slice A head.length c] w fun e w' => MStageP w w' (madeX r head) e := by
  obtain ⟨i1, i2, i3, i4⟩ := hr
  obtain ⟨p1, hp1⟩ : ∃ p, pickS r.kind 13 = p := ⟨_, rfl⟩
  obtain ⟨p2, hp2⟩ : ∃ p, pickS r.kind 3 = p := ⟨_, rfl⟩
  obtain ⟨p7, hp7⟩ : ∃ p, pickS r.n 9 = p := ⟨_, rfl⟩
  obtain ⟨p8, hp8⟩ : ∃ p, pickS r.n 2 = p := ⟨_, rfl⟩
  obtain ⟨p9, hp9⟩ : ∃ p, pickS r.a head.length = p := ⟨_, rfl⟩
  obtain ⟨na, hna⟩ : ∃ p, nameS r.a = p := ⟨_, rfl⟩
  have l1 : p1 < 13 := by rw [← hp1]; exact pickS_lt _ (by decide)
  have l2 : p2 < 3 := by rw [← hp2]; exact pickS_lt _ (by decide)
  have l7 : p7 < 9 := by rw [← hp7]; exact pickS_lt _ (by decide)
  have l8 : p8 < 2 := by rw [← hp8]; exact pickS_lt _ (by decide)
  have l9 : p9 < head.length := by rw [← hp9]; exact pickS_lt _ hp
  obtain ⟨g, o, rfl, hcell⟩ := strs_plain hC hp
  have hg : g < w.heap.size := World.block_lt_of_cell? w _ (hcell 0 hp)
  obtain ⟨y, hy⟩ : ∃ y, head.getD p9 ByteArray.empty = y := ⟨_, rfl⟩
  have hcy := hcell p9 l9
  rw [hy] at hcy
  have HP1 : Hid (∀ W, Calls Tryz.prog 26 #[.int .i64 r.kind, .int .i64 13] W fun e w' => e = .returned (.int .i64 (p1 : Nat)) ∧ W = w') := Lib.hid (fun W => by have h := pick_calls r.kind 13 i1 (by decide) (by decide) W; rw [hp1] at h; exact h)
  have HP2 : Hid (∀ W, Calls Tryz.prog 26 #[.int .i64 r.kind, .int .i64 3] W fun e w' => e = .returned (.int .i64 (p2 : Nat)) ∧ W = w') := Lib.hid (fun W => by have h := pick_calls r.kind 3 i1 (by decide) (by decide) W; rw [hp2] at h; exact h)
  have HP7 : Hid (∀ W, Calls Tryz.prog 26 #[.int .i64 r.n, .int .i64 9] W fun e w' => e = .returned (.int .i64 (p7 : Nat)) ∧ W = w') := Lib.hid (fun W => by have h := pick_calls r.n 9 i2 (by decide) (by decide) W; rw [hp7] at h; exact h)
  have HP8 : Hid (∀ W, Calls Tryz.prog 26 #[.int .i64 r.n, .int .i64 2] W fun e w' => e = .returned (.int .i64 (p8 : Nat)) ∧ W = w') := Lib.hid (fun W => by have h := pick_calls r.n 2 i2 (by decide) (by decide) W; rw [hp8] at h; exact h)
  have HP9 : Hid (∀ W, Calls Tryz.prog 26 #[.int .i64 r.a, .int .i64 head.length] W fun e w' => e = .returned (.int .i64 (p9 : Nat)) ∧ W = w') := Lib.hid (fun W => by have h := pick_calls r.a head.length i3 hp (by omega) W; rw [hp9] at h; exact h)
  have HA : Hid (∀ W, Calls Tryz.prog 38 #[.int .i64 r.a] W fun e w' => e = .returned (.string na) ∧ w' = W.alloc nameO) := Lib.hid (fun W => by have h := name_calls r.a i3 W; rw [hna] at h; exact h)
  have HM : Hid (madeX r head = (if p2 = 0 then ⟨9, 1 + p7, []⟩ else if p2 = 1 then ⟨10, 1 + p7, []⟩ else ⟨13, p8, [y]⟩ : Stg)) := by
    refine Lib.hid ?_
    have hk : madeK r head = [9, 10, 13].getD p2 0 := by rw [madeK, if_pos hp, hp2]
    have h3 : p2 = 0 ∨ p2 = 1 ∨ p2 = 2 := by omega
    unfold madeX
    rw [hk, hp7, hp8, hp9, hy, if_pos hp]
    rcases h3 with rfl | rfl | rfl <;> simp
  have hpi : (0 : Int) < head.length := by omega
  have hli : (head.length : Int) ≤ 1000 := by omega
  have hl9 : (p9 : Int) < head.length := by omega
  clear hp1 hp2 hp7 hp8 hp9 hna i1 i2 i3 i4 hcell hy hp hl hC
  have hcase : p2 = 0 ∨ p2 = 1 ∨ p2 = 2 := by omega
  clear l2
  rcases hcase with rfl | rfl | rfl
  · (have HX : Hid (madeX r head = (⟨9, 1 + p7, []⟩ : Stg)) := Lib.hid (by have h := HM.out; simpa using h); clear HM; go_enter Tryz.func36, Tryz.ntmps36; go_wp2_with (first | (go_at_call 26; (with_reducible refine Calls.mono (HP1.out _) ?_); rintro e w' ⟨rfl, rfl⟩) | (go_at_call 26; (with_reducible refine Calls.mono (HP2.out _) ?_); rintro e w' ⟨rfl, rfl⟩) | (go_at_call 26; (with_reducible refine Calls.mono (HP7.out _) ?_); rintro e w' ⟨rfl, rfl⟩) | (go_at_call 26; (with_reducible refine Calls.mono (HP8.out _) ?_); rintro e w' ⟨rfl, rfl⟩) | (go_at_call 26; (with_reducible refine Calls.mono (HP9.out _) ?_); rintro e w' ⟨rfl, rfl⟩) | (go_at_call 38; (with_reducible refine Calls.mono (HA.out _) ?_); rintro e w' ⟨rfl, rfl⟩)); refine bodyPost_ret (results_c1 rfl _ _ (w.heap.size + 1) 43 _ (0, 0) _ rfl (blk_alloc (blk_alloc (blk_newn _ _ (by simp)) _) _) Tryz.underlying43 rfl (by kernel_rfl)) rfl ?_; rw [HX.out]; refine ⟨_, _, rfl, ?_, (by repeat (first | assumption | (with_reducible apply below_alloc) | (with_reducible apply pw_below_drewN) | (with_reducible apply below_drew) | (with_reducible apply Below.refl) | (with_reducible refine bw_set ?_ (by first | (dsimp only; omega) | omega | (simp; done) | (simp; omega)) _)))⟩)
    exact Kd.R_nil _ _ _ _ _
  · (have HX : Hid (madeX r head = (⟨10, 1 + p7, []⟩ : Stg)) := Lib.hid (by have h := HM.out; simpa using h); clear HM; go_enter Tryz.func36, Tryz.ntmps36; go_wp2_with (first | (go_at_call 26; (with_reducible refine Calls.mono (HP1.out _) ?_); rintro e w' ⟨rfl, rfl⟩) | (go_at_call 26; (with_reducible refine Calls.mono (HP2.out _) ?_); rintro e w' ⟨rfl, rfl⟩) | (go_at_call 26; (with_reducible refine Calls.mono (HP7.out _) ?_); rintro e w' ⟨rfl, rfl⟩) | (go_at_call 26; (with_reducible refine Calls.mono (HP8.out _) ?_); rintro e w' ⟨rfl, rfl⟩) | (go_at_call 26; (with_reducible refine Calls.mono (HP9.out _) ?_); rintro e w' ⟨rfl, rfl⟩) | (go_at_call 38; (with_reducible refine Calls.mono (HA.out _) ?_); rintro e w' ⟨rfl, rfl⟩)); refine bodyPost_ret (results_c1 rfl _ _ (w.heap.size + 1) 43 _ (0, 0) _ rfl (blk_alloc (blk_alloc (blk_newn _ _ (by simp)) _) _) Tryz.underlying43 rfl (by kernel_rfl)) rfl ?_; rw [HX.out]; refine ⟨_, _, rfl, ?_, (by repeat (first | assumption | (with_reducible apply below_alloc) | (with_reducible apply pw_below_drewN) | (with_reducible apply below_drew) | (with_reducible apply Below.refl) | (with_reducible refine bw_set ?_ (by first | (dsimp only; omega) | omega | (simp; done) | (simp; omega)) _)))⟩)
    exact Kd.R_nil _ _ _ _ _
  · have HX : Hid (madeX r head = (⟨13, p8, [y]⟩ : Stg)) := Lib.hid (by have h := HM.out; simpa using h)
    clear HM
    go_enter Tryz.func36, Tryz.ntmps36
    go_wp2_with (first | (go_at_call 26; (with_reducible refine Calls.mono (HP1.out _) ?_); rintro e w' ⟨rfl, rfl⟩) | (go_at_call 26; (with_reducible refine Calls.mono (HP2.out _) ?_); rintro e w' ⟨rfl, rfl⟩) | (go_at_call 26; (with_reducible refine Calls.mono (HP7.out _) ?_); rintro e w' ⟨rfl, rfl⟩) | (go_at_call 26; (with_reducible refine Calls.mono (HP8.out _) ?_); rintro e w' ⟨rfl, rfl⟩) | (go_at_call 26; (with_reducible refine Calls.mono (HP9.out _) ?_); rintro e w' ⟨rfl, rfl⟩) | (go_at_call 38; (with_reducible refine Calls.mono (HA.out _) ?_); rintro e w' ⟨rfl, rfl⟩))
    have hc2 : World.cell? ((((((w.alloc (.cells #[.int .i64 r.kind, .int .i64 r.n, .int .i64 r.a, .int .i64 r.b] 82 (0, 0))).alloc (.cells #[.int .i64 0, .int .i64 0, .slice none 0 0] 43 (0, 0))).alloc (.cells #[.int .i64 13, .int .i64 p8, .slice (some ⟨w.heap.size + 1 + 1 + 1 + 1 + 1, 0, none⟩) 1 1] 43 (0, 0))).alloc (.cells #[.int .i64 9, .int .i64 10, .int .i64 13] 3 (0, 0))).alloc nameO).alloc (.cells #[.string na] 9 (0, 0))) ⟨g, o + p9, none⟩ = some (.string y) := pw_cell_below (by repeat (first | assumption | (with_reducible apply below_alloc) | (with_reducible apply pw_below_drewN) | (with_reducible apply below_drew) | (with_reducible apply Below.refl) | (with_reducible refine bw_set ?_ (by first | (dsimp only; omega) | omega | (simp; done) | (simp; omega)) _))) hcy
    go_region_with (first | (go_at_call 26; (with_reducible refine Calls.mono (HP1.out _) ?_); rintro e w' ⟨rfl, rfl⟩) | (go_at_call 26; (with_reducible refine Calls.mono (HP2.out _) ?_); rintro e w' ⟨rfl, rfl⟩) | (go_at_call 26; (with_reducible refine Calls.mono (HP7.out _) ?_); rintro e w' ⟨rfl, rfl⟩) | (go_at_call 26; (with_reducible refine Calls.mono (HP8.out _) ?_); rintro e w' ⟨rfl, rfl⟩) | (go_at_call 26; (with_reducible refine Calls.mono (HP9.out _) ?_); rintro e w' ⟨rfl, rfl⟩) | (go_at_call 38; (with_reducible refine Calls.mono (HA.out _) ?_); rintro e w' ⟨rfl, rfl⟩))
    all_goals
      go_wp2_with fail
      refine bodyPost_ret (results_c1 rfl _ _ (w.heap.size + 1) 43 _ (0, 0) _ rfl (blk_drew (blk_alloc (blk_alloc (blk_alloc (blk_alloc (blk_newn _ _ (by simp)) _) _) _) _)) Tryz.underlying43 rfl (by kernel_rfl)) rfl ?_
      rw [HX.out]
      refine ⟨_, _, rfl, ?_, (by repeat (first | assumption | (with_reducible apply below_alloc) | (with_reducible apply pw_below_drewN) | (with_reducible apply below_drew) | (with_reducible apply Below.refl) | (with_reducible refine bw_set ?_ (by first | (dsimp only; omega) | omega | (simp; done) | (simp; omega)) _)))⟩
      exact R_one (b := w.heap.size + 1 + 1 + 1 + 1 + 1) (blk_drew (blk_newn _ _ (by simp))) (by omega) (by show w.heap.size ≤ w.heap.size + 1 + 1 + 1 + 1 + 1; omega)
end Go.Proofs.YtjcnjpljngabfaaGreatDoor
