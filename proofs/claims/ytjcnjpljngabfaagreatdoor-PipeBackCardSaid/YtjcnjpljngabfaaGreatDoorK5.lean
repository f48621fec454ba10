import Derived.Test.YtjcnjpljngabfaaGreatDoorK4
import Derived.Test.YtjcnjpljngabfaaGreatDoorP5
namespace Go.Proofs.YtjcnjpljngabfaaGreatDoor
open Go.RowKit Go.Proofs.YtjcnjpljngabfaaGreatDoorW.PrintWords
set_option linter.unusedVariables false
set_option maxRecDepth 100000 in
set_option maxHeartbeats 1000000 in
theorem ordSl_calls (A : Option Addr) (c : Nat) (p q : BA) (w : World) (hb : ∀ W, Calls Tryz.prog 279 #[.string q, .string p] W fun e w' => e = .returned (.int .i64 (-1)) ∧ Below W.heap.size W w') (hC : Kd.string.C w A 2 [p, q]) :
    Calls Tryz.prog 303 #[.slice A 2 c, .func (.func 304) #[] #[], .bool false] w fun e w' => ∃ v, e = .returned v ∧ Kd.string.R 9 w' w.heap.size (fun k => w.heap.size ≤ k) v [q, p] ∧ Below w.heap.size w w' := by
  have hmf : ∀ (fn : Fn) (first cap : Array Value) (w : World), (Instr.makeFunc fn first cap).run Tryz.prog w = .ok (.func fn first cap) w := fun _ _ _ _ => rfl
  have HB := Lib.hid hb
  have HC := Lib.hid hC
  have z0 := blk_new w (.cells #[.func (.func 304) #[] #[]] 258 (0, 0))
  have z1 := blk_newn' (n := w.heap.size + 1) (w.alloc (.cells #[.func (.func 304) #[] #[]] 258 (0, 0))) (.cells #[.bool false] 4 (0, 0)) (by simp)
  have Z0 := Lib.hid (blk_alloc z0 (.cells #[.bool false] 4 (0, 0)))
  have Z1 := Lib.hid z1
  clear hb hC z0 z1
  go_enter Tryz.func303, Tryz.ntmps303
  go_wp2_with (first | (go_at_call 82; go_must (refine (clone_calls A c [p, q] _ (Kd.C_alloc (Kd.C_alloc HC.out _) _) (by simp)).mono ?_; rintro e w3 ⟨v3, rfl, hV3, hB3⟩; have hV3 := R_wide (base := w.heap.size) hV3 (by simp; omega); obtain ⟨g3, k3, rfl, hg3, hl3, _⟩ := Kd.R_form hV3 (by simp))) | (go_at_call 305; go_must (refine (stabS_calls g3 k3 (w.heap.size + 1) w.heap.size p q w.heap.size _ HB.out _ (blk_below Z1.out hB3) (blk_below Z0.out hB3) hV3).mono ?_; rintro e w4 ⟨rfl, hV4, hG4⟩)))
  go_ret
  exact ⟨_, rfl, hV4, pw_below_grown (bw_trans (by repeat (first | assumption | (with_reducible apply below_alloc) | (with_reducible apply pw_below_drewN) | (with_reducible apply below_drew) | (with_reducible apply Below.refl) | (with_reducible refine bw_set ?_ (by first | (dsimp only; omega) | omega | (simp; done) | (simp; omega)) _))) hB3) _ (Nat.le_trans (by simp; omega) hB3.size) hG4 (by intro k hk; injection hk with hk; omega)⟩
end Go.Proofs.YtjcnjpljngabfaaGreatDoor
