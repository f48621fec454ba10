import Derived.Test.YtjcnjpljngabfaaGreatDoorK10
import Derived.Deep.RegionLaw
namespace Go.Proofs.YtjcnjpljngabfaaGreatDoor
open Go.RowKit Go.Proofs.YtjcnjpljngabfaaGreatDoorW.PrintWords
set_option linter.unusedVariables false
/-! New, Add, Merge at the example -/
def add_post (P : Nat) (vs : Value) (hs : List (Int × Int × BA)) (w : World) (e : Ending) (w' : World) : Prop :=
  e = .returned (.tuple #[]) ∧ Below P w w' ∧ ∃ v, w'.heap[P]? = some (.cells #[vs, v] 114 (0, 0)) ∧ hitK.R 58 w' (P + 1) (fun k => P + 1 ≤ k) v hs
set_option maxRecDepth 100000 in
set_option maxHeartbeats 2000000 in
theorem Add_calls (P : Nat) (vs vh : Value) (hs : List (Int × Int × BA)) (p s : Int) (t : BA) (w : World) (hp : w.heap[P]? = some (.cells #[vs, vh] 114 (0, 0))) (hH : hitK.R 58 w (P + 1) (fun k => P + 1 ≤ k) vh hs) (hl : hs.length ≤ 1000) :
    Calls Tryz.prog 27 #[.pointer (some ⟨P, 0, none⟩), .agg #[.int .i64 p, .int .i64 s, .string t]] w fun e w' => add_post P vs (hs ++ [(p, s, t)]) w e w' := by
  obtain ⟨A, c, rfl⟩ := Kd.R_slice hH
  have h0 := blk_new w (.cells #[.int .i64 p, .int .i64 s, .string t] 58 (0, 0))
  have p0 := blk_alloc hp (.cells #[.int .i64 p, .int .i64 s, .string t] 58 (0, 0))
  have HH := Lib.hid (Kd.R_alloc hH (.cells #[.int .i64 p, .int .i64 s, .string t] 58 (0, 0)))
  have HL := Lib.hid hl
  have HP := Lib.hid hp
  have lp := blk_lt hp
  have LP := Lib.hid lp
  have p00 := blk_alloc p0 (.cells #[.int .i64 p, .int .i64 s, .string t] 58 (0, 0))
  have na := blk_cell p00 0; have nb := blk_cell p00 1; have nx := blk_frozen p00 0; have ny := blk_frozen p00 1; have nl := blk_lt p00
  have ha := blk_cell h0 0; have hb := blk_cell h0 1; have hc := blk_cell h0 2; have hx := blk_frozen h0 0; have hy := blk_frozen h0 1; have hz := blk_frozen h0 2; have hl := blk_lt h0
  have pa := blk_cell p0 0; have pb := blk_cell p0 1; have px := blk_frozen p0 0; have py := blk_frozen p0 1; have pl := blk_lt p0
  clear hH hl hp lp
  go_enter Tryz.func27, Tryz.ntmps27
  go_wp2_with fail
  go_region_law (refine Kd.R_append_step hitK (w0 := w) (W := (w.alloc (.cells #[.int .i64 p, .int .i64 s, .string t] 58 (0, 0))).drew) (P + 1) (by rfl) _ _ 63 58 (.agg #[.int .i64 0, .int .i64 0, .string ⟨#[]⟩]) 32 rfl Tryz.underlying63 info_hit rfl (by decide) (by omega) (.slice A hs.length c) hs (p, s, t) [.int .i64 p, .int .i64 s, .string t] (fun k => P + 1 ≤ k) (fun _ => False) rfl (by show Value.slice (some ⟨w.heap.size + 1, 0, none⟩) 1 1 = _; simp) ⟨[_], [_, _], rfl, rfl, [_], [_], rfl, rfl, rfl⟩ (fun _ hk => hk.elim) (by intro k hk; have := LP.out; simp at hk; omega) (Kd.R_drew HH.out) (below_weaken'' LP.out (below_drew (below_alloc (Below.refl _ _) _))) (by have := LP.out; simp; omega) (by have := HL.out; omega) ?_; intro v6 w6 hV6 hB6 hG6 hat6; obtain ⟨A6, c6, rfl⟩ := Kd.R_slice hV6; have q6 := (hB6.block P (Nat.lt_succ_self P)).trans HP.out; have qb := blk_cell q6 1; have qy := blk_frozen q6 1)
  all_goals
    go_wp2_with fail
    first | go_end0 | ((try simp only [Exit.inBlock, Exit.then]); refine bodyPost_ret (results_none rfl _ _ _) rfl ?_)
    rw [show (hs ++ [(p, s, t)]).length = hs.length + 1 by simp] at hV6
    exact ⟨rfl, (hB6.mono (Nat.le_succ P)).setCell (Nat.le_refl P) _, _, blk_set q6 1 _, Kd.R_far hV6 (p := ⟨P, 1, none⟩) (fun k hk e => by have hk' : P + 1 ≤ k := hk; have e' : k = P := e; omega) _⟩
end Go.Proofs.YtjcnjpljngabfaaGreatDoor
