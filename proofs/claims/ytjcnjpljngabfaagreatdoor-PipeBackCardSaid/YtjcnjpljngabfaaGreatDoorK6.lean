import Derived.Test.YtjcnjpljngabfaaGreatDoorK5
import Derived.StringKeys
import Derived.Maps.OwnOps
import Derived.Maps.Views
namespace Go.Proofs.YtjcnjpljngabfaaGreatDoor
open Go.RowKit Go.Maps Go.Proofs.YtjcnjpljngabfaaGreatDoorW.PrintWords
set_option linter.unusedVariables false
/-! flow.tells; counts by letters -/
def tells_post (bf : Nat) (vh vr : Value) (hd : List BA) (w : World) (e : Ending) (w' : World) : Prop :=
  e = .returned (.tuple #[]) ∧ w.grownBy w' (some bf) ∧ ∃ v, w'.heap[bf]? = some (.cells #[vh, .bool true, v, vr] 119 (0, 0)) ∧ Kd.string.R 9 w' w.heap.size (fun k => w.heap.size ≤ k) v hd
set_option maxRecDepth 100000 in
set_option maxHeartbeats 1000000 in
theorem tells_calls (bf : Nat) (vh vm vx vy : Value) (Ar : Option Addr) (nr cr : Nat) (A : Option Addr) (c : Nat) (hd : List BA) (w : World) (hl : hd.length ≤ 64) (hf : w.heap[bf]? = some (.cells #[vh, vm, vx, vy] 119 (0, 0))) (hC : ∀ u, Kd.string.C (w.setCell ⟨bf, 1, none⟩ u) A hd.length hd) :
    Calls Tryz.prog 100 #[.pointer (some ⟨bf, 0, none⟩), .slice A hd.length c, .slice Ar nr cr] w fun e w' => tells_post bf vh (.slice Ar nr cr) hd w e w' := by
  have HC := Lib.hid hC
  have HL := Lib.hid hl
  have HF := Lib.hid hf
  clear hC hl hf
  have fa := blk_cell HF.out 1
  have fx := blk_frozen HF.out 1
  have lf := blk_lt HF.out
  go_enter Tryz.func100, Tryz.ntmps100
  have hb : (w.setCell ⟨bf, 1, none⟩ (.bool true)).heap[bf]? = some (.cells #[vh, .bool true, vx, vy] 119 (0, 0)) := blk_set HF.out 1 (.bool true)
  have HB := Lib.hid hb
  clear hb
  go_wp2_with (go_at_call 82; go_must (refine (clone_calls A c hd _ (HC.out _) (by have := HL.out; omega)).mono ?_; rintro e w3 ⟨v3, rfl, hV3, hB3⟩; obtain ⟨A3, c3, rfl⟩ := Kd.R_slice hV3; have h3 := blk_below HB.out hB3; have ga := blk_cell h3 2; have gb := blk_cell h3 3; have gx := blk_frozen h3 2; have gy := blk_frozen h3 3))
  first | go_end0 | ((try simp only [Exit.inBlock, Exit.then]); refine bodyPost_ret (results_none rfl _ _ _) rfl ?_)
  have hs := hB3.size
  simp only [World.size_setCell] at hs hV3
  refine ⟨rfl, ?_, _, blk_set (blk_set h3 2 _) 3 _, ?_⟩
  · exact gb_set (g := bf) (gb_set (g := bf) (gb_below (gb_set (g := bf) (gb_refl _ _) (.inl rfl) _) hB3) (.inl rfl) _) (.inl rfl) _
  · exact Kd.R_far (Kd.R_far hV3 (fun k hk e => by have := blk_lt HF.out; simp only at e; omega) _) (fun k hk e => by have := blk_lt HF.out; simp only at e; omega) _
/-! the map -/
theorem keyS : Keyed Tryz.prog 9 := string_keyed Tryz.underlying9
theorem zeroI (w : World) : (zeroValue 3).run Tryz.prog w = .ok (.int .i64 0) w := by kernel_rfl
def keyC (c : UInt8) : Lit := .string [c]
theorem keyOfC (c : UInt8) : keyOf Tryz.prog 9 (.string (oneB c)) = some (keyC c) := WideMaps.keyOf_string_mk Tryz.underlying9 (by show 1 ≤ _; decide)
theorem keyC_inj {c d : UInt8} (h : c ≠ d) : keyC c ≠ keyC d := by
  intro e; unfold keyC at e; injection e with e; injection e with e; exact h e
/-- the map counts each letter -/
def CountM (w : World) (bm : Nat) (cs : List UInt8) : Prop :=
  ∃ (D : DataW Unit), w.ownsMap Tryz.prog 9 (plainElem Tryz.prog 3) bm cs.length D ∧ IsMap D ∧ ∀ c : UInt8, D.atKey (keyC c) (.lit (.int .i64 0)) = .lit (.int .i64 (cs.count c))
theorem CountM.kept {w w1 : World} {bm : Nat} {cs : List UInt8} {row : Option Nat} (h : CountM w bm cs) (hg : w.grownBy w1 row) (hne : some bm ≠ row) : CountM w1 bm cs := by
  obtain ⟨D, h1, h2⟩ := h
  exact ⟨D, h1.kept hg hne, h2⟩
theorem CountM.below {w w1 : World} {bm : Nat} {cs : List UInt8} (h : CountM w bm cs) (hg : Below w.heap.size w w1) : CountM w1 bm cs := h.kept (grown_of_below hg none) (by simp)
theorem CountM.made (w : World) : CountM (w.alloc (.map #[] 0)) w.heap.size [] := ⟨.map [], World.ownsMap_made w _ _ _, isMap_empty, fun c => by simp; rfl⟩
theorem CountM.put {w : World} {bm : Nat} {cs : List UInt8} {D : DataW Unit} {c : UInt8} (h1 : w.ownsMap Tryz.prog 9 (plainElem Tryz.prog 3) bm (cs.length + 1) (D.put (keyC c) (.lit (.int .i64 (cs.count c + 1))))) (h2 : IsMap D) (h3 : ∀ c : UInt8, D.atKey (keyC c) (.lit (.int .i64 0)) = .lit (.int .i64 (cs.count c))) : CountM w bm (cs ++ [c]) := by
  refine ⟨_, by rw [List.length_append]; exact h1, h2.put _ _, fun d => ?_⟩
  by_cases e : d = c
  · subst e
    rw [atKey_put_same h2 (by trivial)]
    simp
  · rw [atKey_put_other (keyC_inj e), h3 d]
    simp [List.count_append, Ne.symm e]
set_option maxRecDepth 100000 in
theorem CountM.look {w : World} {bm : Nat} {cs : List UInt8} (h : CountM w bm cs) (c : UInt8) : (Instr.lookup 288 (.map (some bm)) (.string (oneB c)) false).run Tryz.prog w = .ok (.int .i64 (cs.count c)) w := by
  obtain ⟨D, h1, h2, h3⟩ := h
  obtain ⟨n, hr, ha, _⟩ := h1.lookup_int keyS Tryz.underlying288 Tryz.underlying3 (zeroI w) (keyOfC c)
  rw [h3 c] at ha
  injection ha with ha
  injection ha with _ ha
  rw [hr, ha]
/-- different ones, in the order in which they come -/
def addC (l : List UInt8) (c : UInt8) : List UInt8 := if c ∈ l then l else l ++ [c]
def valsC (cs : List UInt8) : List UInt8 := cs.foldl addC []
theorem valsC_snoc (cs : List UInt8) (c : UInt8) : valsC (cs ++ [c]) = addC (valsC cs) c := by simp [valsC, List.foldl_append]
theorem fold_mem (cs : List UInt8) : ∀ (l : List UInt8) (c : UInt8), c ∈ cs.foldl addC l ↔ c ∈ l ∨ c ∈ cs := by
  induction cs with
  | nil => simp
  | cons d cs ih =>
    intro l c
    rw [List.foldl_cons, ih, addC]
    by_cases h : d ∈ l
    · rw [if_pos h]; simp
      constructor
      · rintro (h1 | h1); exact .inl h1; exact .inr (.inr h1)
      · rintro (h1 | rfl | h1); exact .inl h1; exact .inl h; exact .inr h1
    · rw [if_neg h]; simp [or_assoc]
theorem valsC_mem (cs : List UInt8) (c : UInt8) : c ∈ valsC cs ↔ c ∈ cs := by rw [valsC, fold_mem]; simp
theorem fold_len (cs : List UInt8) : ∀ l : List UInt8, (cs.foldl addC l).length ≤ l.length + cs.length := by
  induction cs with
  | nil => simp
  | cons d cs ih =>
    intro l
    rw [List.foldl_cons]
    have := ih (addC l d)
    have h2 : (addC l d).length ≤ l.length + 1 := by rw [addC]; split <;> simp
    simp; omega
theorem valsC_len (cs : List UInt8) : (valsC cs).length ≤ cs.length := Nat.le_trans (fold_len cs []) (by simp)
/-- hits of lines b=.. -/
def HitsAt (w : World) (bh : Nat) (cs : List UInt8) : Prop :=
  ∀ j (h : j < cs.length), ∃ p s, w.cell? ⟨bh, j * 3, none⟩ = some (.int .i64 p) ∧ w.cell? ⟨bh, j * 3 + 1, none⟩ = some (.int .i64 s) ∧ w.cell? ⟨bh, j * 3 + 2, none⟩ = some (.string (lineB cs[j]))
theorem HitsAt.below {w w1 : World} {bh : Nat} {cs : List UInt8} (h : HitsAt w bh cs) (hb : Below w.heap.size w w1) : HitsAt w1 bh cs := fun j hj => by
  obtain ⟨p, s, h0, h1, h2⟩ := h j hj
  exact ⟨p, s, pw_cell_below hb h0, pw_cell_below hb h1, pw_cell_below hb h2⟩
/-- the walk's world in round j -/
structure CntAt (w wr : World) (v : Value) (cs vs : List UInt8) : Prop where
  below : Below w.heap.size w wr
  size : w.heap.size + 3 ≤ wr.heap.size
  box : wr.heap[w.heap.size]? = some (.cells #[.string ⟨#[98]⟩, .int .i64 0] 168 (0, 0))
  map : CountM wr (w.heap.size + 1) cs
  var : wr.heap[w.heap.size + 1 + 1]? = some (.cells #[.map (some (w.heap.size + 1))] 288 (0, 0))
  vals : Kd.string.R 9 wr (w.heap.size + 3) (fun k => w.heap.size + 3 ≤ k) v (vs.map oneB)
theorem CntAt.step {w wr w1 : World} {v : Value} {cs vs : List UInt8} (h : CntAt w wr v cs vs) (hb : Below wr.heap.size wr w1) : CntAt w w1 v cs vs :=
  ⟨bw_trans h.below hb, Nat.le_trans h.size hb.size, blk_below h.box hb, h.map.below hb, blk_below h.var hb, Kd.R_below h.vals hb⟩
theorem CntAt.put {w wr w1 : World} {v : Value} {cs vs : List UInt8} {d : UInt8} (h : CntAt w wr v cs vs) (hg : wr.grownBy w1 (some (w.heap.size + 1))) (hm : CountM w1 (w.heap.size + 1) (cs ++ [d])) : CntAt w w1 v (cs ++ [d]) vs :=
  ⟨bw_trans_new h.below hg (Nat.le_succ _), Nat.le_trans h.size hg.size, blk_grown h.box hg (by intro e; injection e with e; omega), hm, blk_grown h.var hg (by intro e; injection e with e; omega), Kd.R_grown h.vals hg (by intro k hk e; injection e with e; omega)⟩
theorem CntAt.add {w wr w1 : World} {v v1 : Value} {cs vs : List UInt8} {d : UInt8} (h : CntAt w wr v cs vs) (hb : Below (w.heap.size + 3) wr w1) (hg : wr.grownBy w1 v.ownBlock) (hv : Kd.string.R 9 w1 (w.heap.size + 3) (fun k => w.heap.size + 3 ≤ k) v1 (vs.map oneB ++ [oneB d])) : CntAt w w1 v1 cs (vs ++ [d]) :=
  ⟨below_weaken h.below (by omega) hb, Nat.le_trans h.size hb.size, (hb.block _ (by omega)).trans h.box, h.map.kept hg (Kd.R_away h.vals (fun k hk e => by omega)), (hb.block _ (by omega)).trans h.var, by rw [List.map_append]; exact hv⟩
theorem wfI {n : Int} (h : -9223372036854775808 ≤ n ∧ n ≤ 9223372036854775807) : (Lit.int .i64 n).wf = true := by
  simp [Lit.wf, IntKind.min, IntKind.max, IntKind.signed, IntKind.bits]; omega
def decT (n : Nat) : BA := ⟨(Lib.decDigits n).toArray⟩
def counted_post (bf : Nat) (vh : Value) (rows : List (List BA)) (w : World) (e : Ending) (w' : World) : Prop :=
  e = .returned (.tuple #[]) ∧ w.grownBy w' (some bf) ∧ ∃ v vr, w'.heap[bf]? = some (.cells #[vh, .bool true, v, vr] 119 (0, 0)) ∧ Kd.string.R 9 w' w.heap.size (fun k => w.heap.size ≤ k) v [⟨#[98]⟩, countT] ∧ Kd.R (Kd.slice 9 Kd.string) 41 w' w.heap.size (fun k => w.heap.size ≤ k) vr rows
theorem info_row : (Tryz.prog.info? 41).map (fun i => (i.zero, i.size, i.bytes)) = some (some (.slice none 0 0), 1, 24) := by kernel_rfl
theorem below_weaken'' {a b : World} {B : Nat} (h : B ≤ a.heap.size) (k : Below a.heap.size a b) : Below B a b := below_weaken' h k
/-- .. behind the order: rows -/
structure RwAt (w wr : World) (cs : List UInt8) (v : Value) (l : List BA) (vr : Value) (rows : List (List BA)) : Prop where
  below : Below w.heap.size w wr
  size : w.heap.size + 3 ≤ wr.heap.size
  box : wr.heap[w.heap.size]? = some (.cells #[.string ⟨#[98]⟩, .int .i64 0] 168 (0, 0))
  map : CountM wr (w.heap.size + 1) cs
  var : wr.heap[w.heap.size + 1 + 1]? = some (.cells #[.map (some (w.heap.size + 1))] 288 (0, 0))
  vals : Kd.string.R 9 wr (w.heap.size + 3) (fun k => w.heap.size + 3 ≤ k) v l
  rows : Kd.R (Kd.slice 9 Kd.string) 41 wr (w.heap.size + 3) (fun k => w.heap.size + 3 ≤ k) vr rows
theorem RwAt.add {w wr W w1 : World} {cs : List UInt8} {v vr v1 : Value} {l : List BA} {rows : List (List BA)} {x : List BA} (h : RwAt w wr cs v l vr rows) (hW : Below wr.heap.size wr W) (hb : Below (w.heap.size + 3) wr w1) (hg : W.grownBy w1 vr.ownBlock) (hv : Kd.R (Kd.slice 9 Kd.string) 41 w1 (w.heap.size + 3) (fun k => w.heap.size + 3 ≤ k) v1 (rows ++ [x])) : RwAt w w1 cs v l v1 (rows ++ [x]) :=
  ⟨below_weaken h.below (by omega) hb, Nat.le_trans h.size hb.size, (hb.block _ (by omega)).trans h.box, (h.map.below hW).kept hg (Kd.R_away h.rows (fun k hk e => by omega)), (hb.block _ (by omega)).trans h.var,
    Kd.R_over (Kd.R_below h.vals hW) (Kd.R_below h.rows hW) (by intro q hq; simp [Kd.string, Kd.scalar] at hq; subst hq; decide) hg, hv⟩
theorem cntAt_start (w : World) : CntAt w (((w.alloc (.cells #[.string ⟨#[98]⟩, .int .i64 0] 168 (0, 0))).alloc (.map #[] 0)).alloc (.cells #[.map (some (w.heap.size + 1))] 288 (0, 0))) (.slice none 0 0) [] [] := by
  refine ⟨(by repeat (first | assumption | (with_reducible apply below_alloc) | (with_reducible apply pw_below_drewN) | (with_reducible apply below_drew) | (with_reducible apply Below.refl) | (with_reducible refine bw_set ?_ (by first | (dsimp only; omega) | omega | (simp; done) | (simp; omega)) _))), by simp, ?_, ?_, ?_, Kd.R_nil _ _ _ _ _⟩
  · exact blk_alloc (blk_alloc (blk_new w _) _) _
  · have h := CountM.made (w.alloc (.cells #[.string ⟨#[98]⟩, .int .i64 0] 168 (0, 0)))
    rw [show (w.alloc (.cells #[.string ⟨#[98]⟩, .int .i64 0] 168 (0, 0))).heap.size = w.heap.size + 1 by simp] at h
    exact h.below (below_alloc (Below.refl _ _) _)
  · exact blk_newn _ _ (by simp)
set_option maxRecDepth 100000 in
set_option maxHeartbeats 4000000 in
theorem counted_calls (bf bh c : Nat) (cs : List UInt8) (vm vx vy : Value) (w : World) (hcs : ∀ c ∈ cs, c = 120 ∨ c = 121) (hlen : cs.length ≤ 1000) (hf : w.heap[bf]? = some (.cells #[.slice (some ⟨bh, 0, none⟩) cs.length c, vm, vx, vy] 119 (0, 0))) (hh : HitsAt w bh cs) (hvs : valsC cs = [121, 120]) (n1 n2 : Nat) (hn1 : cs.count 120 = n1) (hn2 : cs.count 121 = n2) (h1 : n1 < 100) (h2 : n2 < 100) :
    Calls Tryz.prog 302 #[.agg #[.string ⟨#[98]⟩, .int .i64 0], .pointer (some ⟨bf, 0, none⟩)] w fun e w' => counted_post bf (.slice (some ⟨bh, 0, none⟩) cs.length c) [[oneB 120, decT n1], [oneB 121, decT n2]] w e w' := by
  have hmm := @run_makeMap Tryz.prog
  have HH := Lib.hid hh
  have HCS := Lib.hid hcs
  have HF := Lib.hid hf
  have HL := Lib.hid hlen
  have z0 := blk_new w (.cells #[.string ⟨#[98]⟩, .int .i64 0] 168 (0, 0))
  have f3 : (((w.alloc (.cells #[.string ⟨#[98]⟩, .int .i64 0] 168 (0, 0))).alloc (.map #[] 0)).alloc (.cells #[.map (some (w.heap.size + 1))] 288 (0, 0))).heap[bf]? = some (.cells #[.slice (some ⟨bh, 0, none⟩) cs.length c, vm, vx, vy] 119 (0, 0)) := blk_alloc (blk_alloc (blk_alloc hf _) _) _
  have ff := blk_cell f3 0
  have lf := blk_lt hf
  have HVQ := Lib.hid hvs
  have HN1 := Lib.hid hn1
  have HN2 := Lib.hid hn2
  have H1 := Lib.hid h1
  have H2 := Lib.hid h2
  clear hh hcs hf hlen hvs hn1 hn2 h1 h2
  go_enter Tryz.func302, Tryz.ntmps302
  go_upto_block 0 with fail
  go_cut [5] (fun v5 wx => CntAt w wx v5 cs (valsC cs))
  case first =>
    go_wp2_with fail
    go_loopg [5, 19] cs.length (fun m v5 v19 wr => ∃ i : Nat, m = cs.length - i ∧ i ≤ cs.length ∧ v19 = .int .i64 i ∧ CntAt w wr v5 (cs.take i) (valsC (cs.take i)))
    case atStart => exact ⟨0, rfl, Nat.zero_le _, rfl, cntAt_start w⟩
    case round =>
      obtain ⟨i, hm, hi, rfl, hR⟩ := hrel
      clear ff f3 z0
      by_cases hlt : i < cs.length
      · have hcell := HH.out.below hR.below
        obtain ⟨pl, st, k0, k1, k2⟩ := hcell i hlt
        obtain ⟨d, hd⟩ : ∃ d, cs[i] = d := ⟨_, rfl⟩
        rw [hd] at k2
        have HD : Hid (d = 120 ∨ d = 121) := Lib.hid (HCS.out d (hd ▸ List.getElem_mem hlt))
        have htk : cs.take (i + 1) = cs.take i ++ [d] := by rw [List.take_succ_eq_append_getElem hlt, hd]
        have HTK := Lib.hid htk
        obtain ⟨cs', hcs'⟩ : ∃ cs', cs.take i = cs' := ⟨_, rfl⟩
        have HC' := Lib.hid hcs'
        rw [hcs'] at hR
        have hcl : cs'.length ≤ 1000 := by rw [← hcs']; have := HL.out; simp; omega
        have HCL := Lib.hid hcl
        have HR := Lib.hid hR
        have hlt' : (i : Int) < cs.length := by omega
        have HM := Lib.hid hm
        have hic : (i : Int) ≤ 9223372036854775806 := by have := HL.out; omega
        clear hcell hR hd htk hcs' hcl hm hi hlt
        have t7 := blk_new wr (.cells #[.int .i64 pl, .int .i64 st, .string (lineB d)] 58 (0, 0))
        have R1 := HR.out.step (below_alloc (Below.refl _ _) (.cells #[.int .i64 pl, .int .i64 st, .string (lineB d)] 58 (0, 0)))
        have R1' := Lib.hid R1
        have b1 := R1.box
        have xa := blk_cell t7 0; have xb := blk_cell t7 1; have xc := blk_cell t7 2; have xx := blk_frozen t7 0; have xy := blk_frozen t7 1; have xz := blk_frozen t7 2; have xl := blk_lt t7
        have ya := blk_cell b1 0; have yb := blk_cell b1 1; have yx := blk_frozen b1 0; have yy := blk_frozen b1 1; have yl := blk_lt b1
        clear R1
        have HVL : Hid ((valsC cs').length ≤ 1000) := Lib.hid (Nat.le_trans (valsC_len _) HCL.out)
        by_cases hmem : d ∈ cs'
        · obtain ⟨n, hn⟩ : ∃ n, cs'.count d = n := ⟨_, rfl⟩
          have hn0 : 0 < n := by rw [← hn]; exact List.count_pos_iff.2 hmem
          have hn1 : n ≤ 1000 := by rw [← hn]; exact Nat.le_trans List.count_le_length HCL.out
          have hz : ((n : Int) == 0) = false := by rw [beq_eq_false_iff_ne]; omega
          have HN := Lib.hid hn
          have hVS : valsC (cs' ++ [d]) = valsC cs' := by rw [valsC_snoc, addC, if_pos ((valsC_mem _ _).2 hmem)]
          have HVS := Lib.hid hVS
          have hn2 : (n : Int) ≤ 1000 := by omega
          have HW : Hid ((Lit.int .i64 ((n : Int) + 1)).wf = true) := Lib.hid (wfI (by omega))
          clear hn hVS hmem hn0 hn1
          go_wp2_with (first | (go_at_call 229; go_must (refine (Get_calls d HD.out _).mono ?_; rintro e w2 ⟨rfl, hB2⟩; have R2 := R1'.out.step hB2; have v2 := R2.var; have u2 := R2.map.look d; rw [HN.out] at u2; have u2 : (Instr.lookup 288 (.map (some (w.heap.size + 1))) (.string ⟨#[d]⟩) false).run Tryz.prog w2 = .ok (.int .i64 n) w2 := u2; have R2' := Lib.hid R2; clear R2; have u4 := blk_cell v2 0)) | (at_mapUpdate; obtain ⟨D, hD1, hD2, hD3⟩ := R2'.out.map; go_must (refine wpList_mapUpdate_own _ rfl _ _ _ _ rfl 9 3 keyS Tryz.underlying288 (plainElem Tryz.prog 3) (w.heap.size + 1) cs'.length D rfl hD1 (Nat.lt_of_le_of_lt HCL.out (by decide)) _ (.int .i64 ((n : Int) + 1)) (keyC d) rfl rfl (keyOfC d) (.lit (.int .i64 ((n : Int) + 1))) [] (plainElem_int Tryz.underlying3 HW.out) ?_; rintro w7 hM7 hG7)))
          rw [← HN.out] at hM7
          have R7 := R2'.out.put hG7 (CountM.put hM7 hD2 hD3)
          go_roundg (cs.length - (i + 1))
          case rel => exact ⟨i + 1, rfl, by omega, by simp, by rw [HTK.out, HC'.out, HVS.out]; exact R7⟩
          case measure => have := HM.out; omega
        · have hn : cs'.count d = 0 := List.count_eq_zero.2 hmem
          obtain ⟨n, h0⟩ : ∃ n, 0 = n := ⟨_, rfl⟩
          rw [h0] at hn
          have HN := Lib.hid hn
          have hVS : valsC (cs' ++ [d]) = valsC cs' ++ [d] := by rw [valsC_snoc, addC, if_neg (fun h => hmem ((valsC_mem _ _).1 h))]
          have HVS := Lib.hid hVS
          have hz : ((n : Int) == 0) = true := by subst h0; rfl
          have hn2 : (n : Int) ≤ 1000 := by subst h0; decide
          have HW : Hid ((Lit.int .i64 ((n : Int) + 1)).wf = true) := Lib.hid (wfI (by omega))
          clear hn hVS hmem h0
          go_wp2_with (first | (go_at_call 229; go_must (refine (Get_calls d HD.out _).mono ?_; rintro e w2 ⟨rfl, hB2⟩; have R2 := R1'.out.step hB2; have v2 := R2.var; have u2 := R2.map.look d; rw [HN.out] at u2; have u2 : (Instr.lookup 288 (.map (some (w.heap.size + 1))) (.string ⟨#[d]⟩) false).run Tryz.prog w2 = .ok (.int .i64 n) w2 := u2; have R2' := Lib.hid R2; clear R2; have u4 := blk_cell v2 0)) | (at_builtin; go_must (refine Kd.R_append Kd.string (w0 := w2) (W := w2) (w.heap.size + 3) rfl _ _ 41 9 (.string ⟨#[]⟩) 16 rfl Tryz.underlying41 info_str rfl (by decide) (by omega) u5 ((valsC cs').map oneB) (oneB d) [.string (oneB d)] (fun j => w.heap.size + 3 ≤ j) (fun _ => False) rfl rfl rfl (fun _ hk => hk.elim) (by intro k hk; have := R2'.out.size; omega) R2'.out.vals (Below.refl _ _) R2'.out.size (by rw [List.length_map]; have := HVL.out; omega) ?_; rintro v6 w6 hV6 hB6 hG6 hat6; have R6 := R2'.out.add hB6 hG6 hV6; clear u2 u4; have v6v := R6.var; have u6 := R6.map.look d; rw [HN.out] at u6; have u6 : (Instr.lookup 288 (.map (some (w.heap.size + 1))) (.string ⟨#[d]⟩) false).run Tryz.prog w6 = .ok (.int .i64 n) w6 := u6; have u8 := blk_cell v6v 0; have R6' := Lib.hid R6; clear R6)) | (at_mapUpdate; obtain ⟨D, hD1, hD2, hD3⟩ := R6'.out.map; go_must (refine wpList_mapUpdate_own _ rfl _ _ _ _ rfl 9 3 keyS Tryz.underlying288 (plainElem Tryz.prog 3) (w.heap.size + 1) cs'.length D rfl hD1 (Nat.lt_of_le_of_lt HCL.out (by decide)) _ (.int .i64 ((n : Int) + 1)) (keyC d) rfl rfl (keyOfC d) (.lit (.int .i64 ((n : Int) + 1))) [] (plainElem_int Tryz.underlying3 HW.out) ?_; rintro w7 hM7 hG7)))
          rw [← HN.out] at hM7
          have R7 := R6'.out.put hG7 (CountM.put hM7 hD2 hD3)
          go_roundg (cs.length - (i + 1))
          case rel => exact ⟨i + 1, rfl, by omega, by simp, by rw [HTK.out, HC'.out, HVS.out]; exact R7⟩
          case measure => have := HM.out; omega
      · have hge : (cs.length : Int) ≤ i := by omega
        have e1 : cs.take i = cs := List.take_of_length_le (by omega)
        rw [e1] at hR
        have HR := Lib.hid hR
        clear hR e1 hm hi hlt
        go_wp2_with fail
        go_meet
        exact HR.out
  case rest =>
    clear ff f3 z0
    obtain ⟨A5, c5, rfl⟩ := Kd.R_slice hcut.vals
    have hvs := HVQ.out
    rw [hvs] at hcut
    have hC5 := (Kd.R_reads' hcut.vals).2.2
    have hlv : ((valsC cs).map oneB).length = 2 := by rw [hvs]; rfl
    rw [hlv]
    have hcut : CntAt w wc (.slice A5 2 c5) cs [121, 120] := hcut
    have HU := Lib.hid hcut
    have hC5 : Kd.string.C wc A5 2 [oneB 121, oneB 120] := hC5
    have HC5 := Lib.hid hC5
    clear hcut hC5 hlv hvs
    go_upto_region 17 with (go_at_call 303; go_must (refine (ordSl_calls A5 c5 (oneB 121) (oneB 120) _ byv_letters HC5.out).mono ?_; rintro e w5 ⟨v5, rfl, hV5, hB5⟩; have b5 := blk_below HU.out.box hB5; obtain ⟨x5a, x5b⟩ := (⟨blk_cell b5 1, blk_frozen b5 1⟩ : _ ∧ _)))
    obtain ⟨g5, k5, rfl, hg5, hl5, _⟩ := Kd.R_form hV5 (by simp)
    have hU5 := HU.out.step hB5
    have hs5 := HU.out.size
    have R5 : RwAt w w5 cs (.slice (some ⟨g5, 0, none⟩) 2 k5) [oneB 120, oneB 121] (.slice none 0 0) [] := ⟨hU5.below, hU5.size, hU5.box, hU5.map, hU5.var, R_wide hV5 hs5, Kd.R_nil _ _ _ _ _⟩
    clear hU5 hs5 hV5 hl5 hg5
    (have qv := blk_cell R5.var 0; have qm : (Instr.lookup 288 (.map (some (w.heap.size + 1))) (.string ⟨#[120]⟩) false).run Tryz.prog w5 = .ok (.int .i64 n1) w5 := (by have h := R5.map.look 120; rw [HN1.out] at h; exact h); have qc : World.cell? w5 ⟨g5, 0, none⟩ = some (.string ⟨#[120]⟩) := (Kd.R_cell ByteArray.empty R5.vals 0 (by decide) (by simp)).1; have qb := blk_cell R5.box 0)
    have R5' := Lib.hid R5
    clear R5
    go_wp2_with fail
    refine wp_loop_rounds 3 ?_
    rw [rounds_succ]
    go_wp2_with (first | (go_at_call 60; go_must (refine (Tryz.strconv_Itoa_small n1 H1.out _).mono ?_; rintro e wI ⟨rfl, rfl⟩)) | (at_builtin; go_must (refine Kd.R_append (Kd.slice 9 Kd.string) (w0 := wI) (W := wI.alloc (.cells #[.string (oneB 120), .string (decT n1)] 9 (0, 0))) (w.heap.size + 3) rfl _ _ 30 41 (.slice none 0 0) 24 rfl Tryz.underlying30 info_row rfl (by decide) (by omega) (.slice none 0 0) [] [oneB 120, (decT n1)] [.slice (some ⟨wI.heap.size, 0, none⟩) 2 2] (fun j => w.heap.size + 3 ≤ j) (fun j => j = wI.heap.size) rfl (by show Value.slice (some ⟨wI.heap.size + 1, 0, none⟩) 1 1 = _; simp) ⟨_, rfl, R_two (blk_new _ _) R5'.out.size rfl⟩ (by intro k hk; subst hk; exact ⟨R5'.out.size, fun e => by have := Kd.R_lt R5'.out.rows _ e.symm; omega⟩) (by intro k hk; have := R5'.out.size; simp at hk; omega) (Kd.R_below R5'.out.rows (below_alloc (Below.refl _ _) _)) (below_weaken'' R5'.out.size (below_alloc (Below.refl _ _) _)) (by have := R5'.out.size; simp; omega) (by simp) ?_; rintro w6v w6 hVw6 hBw6 hGw6 hatw6; have Rw6 := R5'.out.add (W := wI.alloc (.cells #[.string (oneB 120), .string (decT n1)] 9 (0, 0))) (below_alloc (Below.refl _ _) _) hBw6 hGw6 hVw6)))
    clear qv qm qc qb hBw6 hGw6 hVw6 hatw6 b5 x5a x5b hcut
    (have qv := blk_cell Rw6.var 0; have qm : (Instr.lookup 288 (.map (some (w.heap.size + 1))) (.string ⟨#[121]⟩) false).run Tryz.prog w6 = .ok (.int .i64 n2) w6 := (by have h := Rw6.map.look 121; rw [HN2.out] at h; exact h); have qc : World.cell? w6 ⟨g5, 1, none⟩ = some (.string ⟨#[121]⟩) := (Kd.R_cell ByteArray.empty Rw6.vals 1 (by decide) (by simp)).1; have qb := blk_cell Rw6.box 0)
    have R6' := Lib.hid Rw6
    clear Rw6
    rw [rounds_succ]
    go_wp2_with (first | (go_at_call 60; go_must (refine (Tryz.strconv_Itoa_small n2 H2.out _).mono ?_; rintro e wJ ⟨rfl, rfl⟩)) | (at_builtin; go_must (refine Kd.R_append (Kd.slice 9 Kd.string) (w0 := wJ) (W := wJ.alloc (.cells #[.string (oneB 121), .string (decT n2)] 9 (0, 0))) (w.heap.size + 3) rfl _ _ 30 41 (.slice none 0 0) 24 rfl Tryz.underlying30 info_row rfl (by decide) (by omega) w6v ([] ++ [[oneB 120, decT n1]]) [oneB 121, (decT n2)] [.slice (some ⟨wJ.heap.size, 0, none⟩) 2 2] (fun j => w.heap.size + 3 ≤ j) (fun j => j = wJ.heap.size) rfl (by show Value.slice (some ⟨wJ.heap.size + 1, 0, none⟩) 1 1 = _; simp) ⟨_, rfl, R_two (blk_new _ _) R6'.out.size rfl⟩ (by intro k hk; subst hk; exact ⟨R6'.out.size, fun e => by have := Kd.R_lt R6'.out.rows _ e.symm; omega⟩) (by intro k hk; have := R6'.out.size; simp at hk; omega) (Kd.R_below R6'.out.rows (below_alloc (Below.refl _ _) _)) (below_weaken'' R6'.out.size (below_alloc (Below.refl _ _) _)) (by have := R6'.out.size; simp; omega) (by simp) ?_; rintro w8v w8 hVw8 hBw8 hGw8 hatw8; have Rw8 := R6'.out.add (W := wJ.alloc (.cells #[.string (oneB 121), .string (decT n2)] 9 (0, 0))) (below_alloc (Below.refl _ _) _) hBw8 hGw8 hVw8)))
    clear qv qm qc qb hBw8 hGw8 hVw8 hatw8
    rw [rounds_succ]
    have b8 := blk_cell Rw8.box 0
    have b8x := blk_frozen Rw8.box 0
    have f8 := blk_below HF.out Rw8.below
    obtain ⟨Ar, cr, rfl⟩ := Kd.R_slice Rw8.rows
    have R8' := Lib.hid Rw8
    clear Rw8
    go_wp2_with (go_at_call 100; go_must (refine (tells_calls bf _ _ _ _ Ar _ cr (some ⟨w8.heap.size, 0, none⟩) 2 [⟨#[98]⟩, countT] _ (by simp) (blk_alloc f8 _) (fun u => (Kd.R_reads' (R_two (base := 0) (ok := fun _ => True) (blk_far (blk_new w8 _) (by have := blk_lt f8; simp only; omega) u) (Nat.zero_le _) trivial)).2.2)).mono ?_; rintro e w9 ⟨rfl, hG9, v9, h9, hV9⟩))
    first | go_end0 | ((try simp only [Exit.inBlock, Exit.then]); refine bodyPost_ret (results_none rfl _ _ _) rfl ?_)
    have hs8 := R8'.out.below.size
    exact ⟨rfl, gb_trans (gb_alloc (grown_of_below R8'.out.below _) _) hG9, v9, _, h9, Kd.R_mono (Kd.R_lower hV9 (by simp; omega)) (fun k hk => by simp at hk; omega), Kd.R_mono (Kd.R_lower (Kd.R_grown (Kd.R_below R8'.out.rows (below_alloc (Below.refl _ _) _)) hG9 (by intro k hk e; injection e with e; have := blk_lt HF.out; omega)) (by omega)) (fun k hk => by omega)⟩
end Go.Proofs.YtjcnjpljngabfaaGreatDoor
