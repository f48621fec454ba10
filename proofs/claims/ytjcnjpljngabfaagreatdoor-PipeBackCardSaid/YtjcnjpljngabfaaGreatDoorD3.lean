import Derived.Test.YtjcnjpljngabfaaGreatDoorD4
import Derived.Test.YtjcnjpljngabfaaGreatDoorS8
namespace Go.Proofs.YtjcnjpljngabfaaGreatDoor
open Go.RowKit Go.Proofs.YtjcnjpljngabfaaGreatDoorW.PrintWords
set_option linter.unusedVariables false
/-! Made: stages of raw numbers -/
def rawK : Kd RawS := Kd.iso (Kd.pair (Kd.int .i64) (Kd.pair (Kd.int .i64) (Kd.pair (Kd.int .i64) (Kd.int .i64)))) (fun r => (r.kind, r.n, r.a, r.b))
theorem raws_plain {w : World} {A : Option Addr} {n : Nat} {xs : List RawS} (h : rawK.C w A n xs) (hp : 0 < n) : ∃ b off, A = some ⟨b, off, none⟩ ∧ ∀ j (hj : j < xs.length), w.cell? ⟨b, off + j * 4, none⟩ = some (.int .i64 xs[j].kind) ∧ w.cell? ⟨b, off + j * 4 + 1, none⟩ = some (.int .i64 xs[j].n) ∧ w.cell? ⟨b, off + j * 4 + 2, none⟩ = some (.int .i64 xs[j].a) ∧ w.cell? ⟨b, off + j * 4 + 3, none⟩ = some (.int .i64 xs[j].b) := by
  obtain ⟨hl, _, hc⟩ := h
  obtain ⟨ad, rfl, hr⟩ := hc hp
  have hat : ∀ j (hj : j < xs.length), w.cell? (ad.add (j * 4)) = some (.int .i64 xs[j].kind) ∧ w.cell? (ad.add (j * 4 + 1)) = some (.int .i64 xs[j].n) ∧ w.cell? (ad.add (j * 4 + 2)) = some (.int .i64 xs[j].a) ∧ w.cell? (ad.add (j * 4 + 3)) = some (.int .i64 xs[j].b) := by
    intro j hj
    obtain ⟨cs, _, hk, hu⟩ := hr j xs[j] (List.getElem?_eq_getElem hj)
    obtain ⟨c0, c1, rfl, h0, c2, c3, rfl, h1, c4, c5, rfl, h2, h3⟩ := hk
    have h0 : c0 = [.int .i64 xs[j].kind] := h0
    have h1 : c2 = [.int .i64 xs[j].n] := h1
    have h2 : c4 = [.int .i64 xs[j].a] := h2
    have h3 : c5 = [.int .i64 xs[j].b] := h3
    subst h0 h1 h2 h3
    exact ⟨hu 0 _ rfl, hu 1 _ rfl, hu 2 _ rfl, hu 3 _ rfl⟩
  obtain ⟨b, off, sp⟩ := ad
  have hs : sp = none := by
    obtain ⟨h0, _⟩ := hat 0 (by omega)
    exact cell_plain (by simpa using h0)
  subst hs
  refine ⟨b, off, rfl, fun j hj => ?_⟩
  obtain ⟨h0, h1, h2, h3⟩ := hat j hj
  rw [add_at] at h0 h1 h2 h3
  exact ⟨h0, by rw [show off + j * 4 + 1 = off + (j * 4 + 1) by omega]; exact h1, by rw [show off + j * 4 + 2 = off + (j * 4 + 2) by omega]; exact h2, by rw [show off + j * 4 + 3 = off + (j * 4 + 3) by omega]; exact h3⟩
def MadeP (w w' : World) (l : List Stg) (e : Ending) : Prop :=
  ∃ v ps, e = .returned v ∧ ps.map Prod.fst = l ∧ OutPs w' w.heap.size v ps ∧ Below w.heap.size w w'
def nextHd (head : List BA) (x : Stg) : List BA := if head.length = 0 ∧ tableB x.kind = true then headS x else head
theorem made_step {l : List RawS} {i : Nat} (hi : i < l.length) (head : List BA) : madeF head (l.drop i) = madeX l[i] head :: madeF (nextHd head (madeX l[i] head)) (l.drop (i + 1)) := by
  rw [List.drop_eq_getElem_cons hi, madeF]; rfl
theorem take8 {l : List RawS} {i : Nat} (h : i < (l.take 8).length) : (l.take 8)[i] = l[i]'(by rw [List.length_take] at h; omega) := List.getElem_take
theorem head_len {x : Stg} (h : x.names.length ≤ 64) : (headS x).length ≤ 66 := by
  unfold headS
  split
  · simp; omega
  · split
    · simp
    · split
      · omega
      · simp
theorem AhAt.below' {w w1 : World} {base : Nat} {v : Value} {ahead : Option (List BA)} (h : AhAt w base v ahead) (hb : Below w.heap.size w w1) : AhAt w1 base v ahead := by
  cases ahead with
  | none => exact h
  | some l => exact ⟨Kd.R_below h.1 hb, h.2⟩
set_option maxRecDepth 100000 in
set_option maxHeartbeats 4000000 in
theorem Made_calls (raw : List RawS) (A : Option Addr) (c : Nat) (w : World) (hC : rawK.C w A raw.length raw) (hr : ∀ r ∈ raw, RawIn r) :
    Calls Tryz.prog 32 #[.slice A raw.length c] w fun e w' => MadeP w w' (madeS raw) e := by
  have hmx := Kd.C_max hC
  have HC := Lib.hid hC
  have HR := Lib.hid hr
  clear hC hr
  go_enter Tryz.func32, Tryz.ntmps32
  go_wp2_with fail
  go_loopg [3, 4, 5] (raw.length) (fun m v3 v4 v5 wr => ∃ (i : Nat) (ps : List (Stg × SV)) (head : List BA), m = raw.length - i ∧ i ≤ raw.length ∧ i ≤ 8 ∧ v5 = .int .i64 i ∧ Hid (madeS raw = ps.map Prod.fst ++ madeF head ((raw.take 8).drop i)) ∧ Hid (ps.length = i) ∧ Hid (∀ y ∈ head, isName y = true) ∧ Hid (head.length ≤ 66) ∧ OutPs wr w.heap.size v3 ps ∧ AhAt wr w.heap.size v4 (ahO head) ∧ Below w.heap.size w wr)
  case atStart => exact ⟨0, [], [], rfl, Nat.zero_le _, Nat.zero_le _, rfl, Lib.hid rfl, Lib.hid rfl, Lib.hid (by simp), Lib.hid (by simp), OutPs.nil _ _, rfl, Below.refl _ _⟩
  case round =>
    obtain ⟨i, ps, head, hm, hi, h8, rfl, HMS, HPL, HHN, HHL, hO, hA, hB⟩ := hrel
    obtain ⟨A6, c6, rfl⟩ := hO.slice
    have hic : (i : Int) ≤ 8 := by omega
    by_cases hlt : i < raw.length ∧ i < 8
    · obtain ⟨b, off, rfl, hcell⟩ := raws_plain HC.out (by omega)
      obtain ⟨q0, q1, q2, q3⟩ := hcell i hlt.1
      have q0 := pw_cell_below hB q0
      have q1 := pw_cell_below hB q1
      have q2 := pw_cell_below hB q2
      have q3 := pw_cell_below hB q3
      have hdr := made_step (l := raw.take 8) (i := i) (by rw [List.length_take]; omega) head
      have hri : (raw.take 8)[i]'(by rw [List.length_take]; omega) = raw[i]'hlt.1 := List.getElem_take
      rw [hri] at hdr
      obtain ⟨r, hr⟩ : ∃ r, raw[i]'hlt.1 = r := ⟨_, rfl⟩
      rw [hr] at q0 q1 q2 q3 hdr
      have hin : RawIn r := HR.out r (hr ▸ List.getElem_mem hlt.1)
      obtain ⟨x, hx⟩ : ∃ x, madeX r head = x := ⟨_, rfl⟩
      have hgd := (made_good r head HHN.out).1
      rw [hx] at hdr hgd
      have hnx : x.names.length ≤ 64 := (good_max hgd).2.2.1
      have HMS' : Hid (madeS raw = (ps.map Prod.fst ++ [x]) ++ madeF (nextHd head x) ((raw.take 8).drop (i + 1))) := Lib.hid (by rw [HMS.out, hdr]; simp)
      have HX := Lib.hid hx
      have HGD := Lib.hid hgd
      have HIN := Lib.hid hin
      have HNX := Lib.hid hnx
      have HO := Lib.hid hO
      have HA := Lib.hid hA
      have HB := Lib.hid hB
      have HM := Lib.hid hm
      have h8' : (i : Int) < 8 := by omega
      have hlt' : (i : Int) < raw.length := by omega
      clear hcell hdr hri hr hin hx hgd hnx hO hA hB hm hic
      cases head with
      | cons y0 hd =>
        obtain ⟨A4, c4, rfl⟩ := Kd.R_slice HA.out.1
        have HSTG : Hid (Calls Tryz.prog 36 #[.agg #[.int .i64 r.kind, .int .i64 r.n, .int .i64 r.a, .int .i64 r.b], .slice A4 (y0 :: hd).length c4] wr fun e w' => MStageP wr w' x e) := by
          have h := stage_head r HIN.out (y0 :: hd) (by simp) (by have := HHL.out; omega) A4 c4 wr (Kd.R_reads' HA.out.1).2.2
          rw [HX.out] at h
          exact Lib.hid h
        have e0 : (((y0 :: hd).length : Int) == 0) = false := by simp; omega
        go_upto_region 8 with (first | (go_at_call 36; go_must (refine HSTG.out.mono ?_; rintro e w3 ⟨A3, c3, rfl, hN3, hB3⟩; have tx := blk_new w3 (.cells #[.int .i64 x.kind, .int .i64 x.n, .slice A3 x.names.length c3] 43 (0, 0)); have xa := blk_cell tx 0; have xb := blk_cell tx 1; have xc := blk_cell tx 2; have xx := blk_frozen tx 0; have xy := blk_frozen tx 1; have xz := blk_frozen tx 2; have xl := blk_lt tx; have O4 := Lib.hid (HO.out.below (below_alloc hB3 (.cells #[.int .i64 x.kind, .int .i64 x.n, .slice A3 x.names.length c3] 43 (0, 0)))); have b4 := below_alloc hB3 (.cells #[.int .i64 x.kind, .int .i64 x.n, .slice A3 x.names.length c3] 43 (0, 0)); have hw4 : w.heap.size ≤ (w3.alloc (.cells #[.int .i64 x.kind, .int .i64 x.n, .slice A3 x.names.length c3] 43 (0, 0))).heap.size := Nat.le_trans HB.out.size b4.size)) | (at_builtin; go_must (refine Kd.R_append scK (w0 := w3.alloc (.cells #[.int .i64 x.kind, .int .i64 x.n, .slice A3 x.names.length c3] 43 (0, 0))) (W := w3.alloc (.cells #[.int .i64 x.kind, .int .i64 x.n, .slice A3 x.names.length c3] 43 (0, 0))) w.heap.size rfl _ _ 23 43 (.agg #[.int .i64 0, .int .i64 0, .slice none 0 0]) 40 rfl Tryz.underlying23 info_stage rfl (by decide) (by omega) (.slice A6 ps.length c6) (ps.map cellsOf) (cellsOf (x, ⟨A3, x.names.length, c3⟩)) [.int .i64 x.kind, .int .i64 x.n, .slice A3 x.names.length c3] (fun j => w.heap.size ≤ j) (fun _ => False) rfl (by show Value.slice (some ⟨w3.heap.size + 1, 0, none⟩) 1 1 = _; simp) ⟨[_], [_, _], rfl, rfl, [_], [_], rfl, rfl, rfl⟩ (fun _ hk => hk.elim) (by intro k hk; omega) O4.out.row (Below.refl _ _) hw4 (by have := HPL.out; rw [List.length_map]; omega) ?_; rintro v6 w6 hV6 hB6 hG6 hat6)))
        (have hob : some w3.heap.size ≠ (Value.slice A6 ps.length c6).ownBlock := (by intro e; have := Kd.R_lt HO.out.row _ e.symm; have := hB3.size; omega); have nX := blk_grown tx hG6 hob; have nO : OutPs w6 w.heap.size v6 (ps ++ [(x, ⟨A3, x.names.length, c3⟩)]) := (OutPs.snoc O4.out (b := wr.heap.size) (Kd.R_alloc hN3 _) HB.out.size (fun p hp k hk => Kd.R_lt (HO.out.names p hp) k hk) hV6 hG6); have nB : Below w.heap.size w w6 := below_weaken (bw_trans HB.out b4) (Nat.le_refl _) hB6; have nN : Kd.string.R 9 w6 w.heap.size (fun k => w.heap.size ≤ k) (.slice A3 x.names.length c3) x.names := nO.names (x, ⟨A3, x.names.length, c3⟩) (by simp))
        have nA := (HA.out.below' (bw_trans hB3 (below_alloc (Below.refl _ _) (.cells #[.int .i64 x.kind, .int .i64 x.n, .slice A3 x.names.length c3] 43 (0, 0))))).over O4.out hG6
        have NO := Lib.hid nO
        have NA := Lib.hid nA
        have NB := Lib.hid nB
        clear xa xb xc xx xy xz xl tx hV6 hB6 hG6 hat6 O4 b4 hw4 hN3 hB3 hob nO nA nB nN q0 q1 q2 q3
        have xa := blk_cell nX 0; have xb := blk_cell nX 1; have xc := blk_cell nX 2; have xx := blk_frozen nX 0; have xy := blk_frozen nX 1; have xz := blk_frozen nX 2; have xl := blk_lt nX
        clear nX
        go_wp2_with fail
        go_roundg (raw.length - (i + 1))
        case rel => exact ⟨i + 1, ps ++ [(x, ⟨A3, x.names.length, c3⟩)], y0 :: hd, rfl, by omega, by omega, by go_num, by rw [List.map_append]; exact HMS', Lib.hid (by rw [List.length_append, HPL.out]; rfl), HHN, HHL, NO.out, NA.out, NB.out⟩
        case measure => have := HM.out; omega
      | nil =>
        have hv : _ = Value.slice none 0 0 := HA.out
        subst hv
        have HSTG : Hid (Calls Tryz.prog 36 #[.agg #[.int .i64 r.kind, .int .i64 r.n, .int .i64 r.a, .int .i64 r.b], .slice none 0 0] wr fun e w' => MStageP wr w' x e) := by
          have h := stage_nohead r HIN.out wr
          rw [HX.out] at h
          exact Lib.hid h
        have hcase : (x.kind ≤ 8 ∧ ¬ x.kind = 12) ∨ (¬ x.kind ≤ 8 ∧ x.kind = 12) ∨ (¬ x.kind ≤ 8 ∧ ¬ x.kind = 12) := by omega
        rcases hcase with ⟨hk8, hk12⟩ | ⟨hk8, hk12⟩ | ⟨hk8, hk12⟩
        · have HT : Hid (tableB x.kind = true) := Lib.hid (by simp [tableB, hk8])
          have H12 := Lib.hid hk12
          have e12 : (x.kind == 12) = false := by simpa using hk12
          clear hk12
          (go_upto_region 8 with (first | (go_at_call 36; go_must (refine HSTG.out.mono ?_; rintro e w3 ⟨A3, c3, rfl, hN3, hB3⟩; have tx := blk_new w3 (.cells #[.int .i64 x.kind, .int .i64 x.n, .slice A3 x.names.length c3] 43 (0, 0)); have xa := blk_cell tx 0; have xb := blk_cell tx 1; have xc := blk_cell tx 2; have xx := blk_frozen tx 0; have xy := blk_frozen tx 1; have xz := blk_frozen tx 2; have xl := blk_lt tx; have O4 := Lib.hid (HO.out.below (below_alloc hB3 (.cells #[.int .i64 x.kind, .int .i64 x.n, .slice A3 x.names.length c3] 43 (0, 0)))); have b4 := below_alloc hB3 (.cells #[.int .i64 x.kind, .int .i64 x.n, .slice A3 x.names.length c3] 43 (0, 0)); have hw4 : w.heap.size ≤ (w3.alloc (.cells #[.int .i64 x.kind, .int .i64 x.n, .slice A3 x.names.length c3] 43 (0, 0))).heap.size := Nat.le_trans HB.out.size b4.size)) | (at_builtin; go_must (refine Kd.R_append scK (w0 := w3.alloc (.cells #[.int .i64 x.kind, .int .i64 x.n, .slice A3 x.names.length c3] 43 (0, 0))) (W := w3.alloc (.cells #[.int .i64 x.kind, .int .i64 x.n, .slice A3 x.names.length c3] 43 (0, 0))) w.heap.size rfl _ _ 23 43 (.agg #[.int .i64 0, .int .i64 0, .slice none 0 0]) 40 rfl Tryz.underlying23 info_stage rfl (by decide) (by omega) (.slice A6 ps.length c6) (ps.map cellsOf) (cellsOf (x, ⟨A3, x.names.length, c3⟩)) [.int .i64 x.kind, .int .i64 x.n, .slice A3 x.names.length c3] (fun j => w.heap.size ≤ j) (fun _ => False) rfl (by show Value.slice (some ⟨w3.heap.size + 1, 0, none⟩) 1 1 = _; simp) ⟨[_], [_, _], rfl, rfl, [_], [_], rfl, rfl, rfl⟩ (fun _ hk => hk.elim) (by intro k hk; omega) O4.out.row (Below.refl _ _) hw4 (by have := HPL.out; rw [List.length_map]; omega) ?_; rintro v6 w6 hV6 hB6 hG6 hat6))); (have hob : some w3.heap.size ≠ (Value.slice A6 ps.length c6).ownBlock := (by intro e; have := Kd.R_lt HO.out.row _ e.symm; have := hB3.size; omega); have nX := blk_grown tx hG6 hob; have nO : OutPs w6 w.heap.size v6 (ps ++ [(x, ⟨A3, x.names.length, c3⟩)]) := (OutPs.snoc O4.out (b := wr.heap.size) (Kd.R_alloc hN3 _) HB.out.size (fun p hp k hk => Kd.R_lt (HO.out.names p hp) k hk) hV6 hG6); have nB : Below w.heap.size w w6 := below_weaken (bw_trans HB.out b4) (Nat.le_refl _) hB6; have nN : Kd.string.R 9 w6 w.heap.size (fun k => w.heap.size ≤ k) (.slice A3 x.names.length c3) x.names := nO.names (x, ⟨A3, x.names.length, c3⟩) (by simp)); have NO6 := Lib.hid nO; have NB6 := Lib.hid nB; have NN6 := Lib.hid nN; clear xa xb xc xx xy xz xl tx hV6 hB6 hG6 hat6 O4 b4 hw4 hN3 hB3 hob nO nB nN q0 q1 q2 q3; have xa := blk_cell nX 0; have xb := blk_cell nX 1; have xc := blk_cell nX 2; have xx := blk_frozen nX 0; have xy := blk_frozen nX 1; have xz := blk_frozen nX 2; have xl := blk_lt nX; clear nX; go_wp2_with (go_at_call 46; go_must (refine (Head_calls x HGD.out HT.out A3 c3 _ (Kd.R_reads' NN6.out).2.2).mono ?_; rintro e w7 ⟨hB7, v7, rfl, h12, hno⟩)); have NO := Lib.hid (NO6.out.below hB7); have NN7 := Kd.R_below NN6.out hB7; have NB := NB6; have NB7 := bw_trans NB6.out hB7; go_roundg (raw.length - (i + 1)))
          case rel => exact ⟨i + 1, ps ++ [(x, ⟨A3, x.names.length, c3⟩)], headS x, rfl, by omega, by omega, by go_num, by rw [List.map_append]; have h := HMS'.out; rw [nextHd, if_pos ⟨rfl, HT.out⟩] at h; exact Lib.hid h, Lib.hid (by rw [List.length_append, HPL.out]; rfl), Lib.hid (head_names HGD.out).1, Lib.hid (head_len HNX.out), NO.out, by rw [ahO, if_pos ((head_names HGD.out).2 HT.out)]; exact ⟨R_wide (hno H12.out) NB.out.size, (head_names HGD.out).2 HT.out⟩, NB7⟩
          case measure => have := HM.out; omega
        · have HT : Hid (tableB x.kind = true) := Lib.hid (by simp [tableB, hk12])
          have H12 := Lib.hid hk12
          have e12 : (x.kind == 12) = true := by simpa using hk12
          clear hk12
          (go_upto_region 8 with (first | (go_at_call 36; go_must (refine HSTG.out.mono ?_; rintro e w3 ⟨A3, c3, rfl, hN3, hB3⟩; have tx := blk_new w3 (.cells #[.int .i64 x.kind, .int .i64 x.n, .slice A3 x.names.length c3] 43 (0, 0)); have xa := blk_cell tx 0; have xb := blk_cell tx 1; have xc := blk_cell tx 2; have xx := blk_frozen tx 0; have xy := blk_frozen tx 1; have xz := blk_frozen tx 2; have xl := blk_lt tx; have O4 := Lib.hid (HO.out.below (below_alloc hB3 (.cells #[.int .i64 x.kind, .int .i64 x.n, .slice A3 x.names.length c3] 43 (0, 0)))); have b4 := below_alloc hB3 (.cells #[.int .i64 x.kind, .int .i64 x.n, .slice A3 x.names.length c3] 43 (0, 0)); have hw4 : w.heap.size ≤ (w3.alloc (.cells #[.int .i64 x.kind, .int .i64 x.n, .slice A3 x.names.length c3] 43 (0, 0))).heap.size := Nat.le_trans HB.out.size b4.size)) | (at_builtin; go_must (refine Kd.R_append scK (w0 := w3.alloc (.cells #[.int .i64 x.kind, .int .i64 x.n, .slice A3 x.names.length c3] 43 (0, 0))) (W := w3.alloc (.cells #[.int .i64 x.kind, .int .i64 x.n, .slice A3 x.names.length c3] 43 (0, 0))) w.heap.size rfl _ _ 23 43 (.agg #[.int .i64 0, .int .i64 0, .slice none 0 0]) 40 rfl Tryz.underlying23 info_stage rfl (by decide) (by omega) (.slice A6 ps.length c6) (ps.map cellsOf) (cellsOf (x, ⟨A3, x.names.length, c3⟩)) [.int .i64 x.kind, .int .i64 x.n, .slice A3 x.names.length c3] (fun j => w.heap.size ≤ j) (fun _ => False) rfl (by show Value.slice (some ⟨w3.heap.size + 1, 0, none⟩) 1 1 = _; simp) ⟨[_], [_, _], rfl, rfl, [_], [_], rfl, rfl, rfl⟩ (fun _ hk => hk.elim) (by intro k hk; omega) O4.out.row (Below.refl _ _) hw4 (by have := HPL.out; rw [List.length_map]; omega) ?_; rintro v6 w6 hV6 hB6 hG6 hat6))); (have hob : some w3.heap.size ≠ (Value.slice A6 ps.length c6).ownBlock := (by intro e; have := Kd.R_lt HO.out.row _ e.symm; have := hB3.size; omega); have nX := blk_grown tx hG6 hob; have nO : OutPs w6 w.heap.size v6 (ps ++ [(x, ⟨A3, x.names.length, c3⟩)]) := (OutPs.snoc O4.out (b := wr.heap.size) (Kd.R_alloc hN3 _) HB.out.size (fun p hp k hk => Kd.R_lt (HO.out.names p hp) k hk) hV6 hG6); have nB : Below w.heap.size w w6 := below_weaken (bw_trans HB.out b4) (Nat.le_refl _) hB6; have nN : Kd.string.R 9 w6 w.heap.size (fun k => w.heap.size ≤ k) (.slice A3 x.names.length c3) x.names := nO.names (x, ⟨A3, x.names.length, c3⟩) (by simp)); have NO6 := Lib.hid nO; have NB6 := Lib.hid nB; have NN6 := Lib.hid nN; clear xa xb xc xx xy xz xl tx hV6 hB6 hG6 hat6 O4 b4 hw4 hN3 hB3 hob nO nB nN q0 q1 q2 q3; have xa := blk_cell nX 0; have xb := blk_cell nX 1; have xc := blk_cell nX 2; have xx := blk_frozen nX 0; have xy := blk_frozen nX 1; have xz := blk_frozen nX 2; have xl := blk_lt nX; clear nX; go_wp2_with (go_at_call 46; go_must (refine (Head_calls x HGD.out HT.out A3 c3 _ (Kd.R_reads' NN6.out).2.2).mono ?_; rintro e w7 ⟨hB7, v7, rfl, h12, hno⟩)); have NO := Lib.hid (NO6.out.below hB7); have NN7 := Kd.R_below NN6.out hB7; have NB := NB6; have NB7 := bw_trans NB6.out hB7; go_roundg (raw.length - (i + 1)))
          case rel => exact ⟨i + 1, ps ++ [(x, ⟨A3, x.names.length, c3⟩)], headS x, rfl, by omega, by omega, by go_num, by rw [List.map_append]; have h := HMS'.out; rw [nextHd, if_pos ⟨rfl, HT.out⟩] at h; exact Lib.hid h, Lib.hid (by rw [List.length_append, HPL.out]; rfl), Lib.hid (head_names HGD.out).1, Lib.hid (head_len HNX.out), NO.out, by rw [ahO, if_pos ((head_names HGD.out).2 HT.out)]; refine ⟨?_, (head_names HGD.out).2 HT.out⟩; rw [h12 H12.out, show headS x = x.names by rw [headS, if_neg (by have := H12.out; omega), if_neg (by have := H12.out; omega), if_pos H12.out]]; exact NN7, NB7⟩
          case measure => have := HM.out; omega
        · have HT : Hid (tableB x.kind = false) := Lib.hid (by simp [tableB, hk8, hk12])
          have e12 : (x.kind == 12) = false := by simpa using hk12
          clear hk12
          go_upto_region 8 with (first | (go_at_call 36; go_must (refine HSTG.out.mono ?_; rintro e w3 ⟨A3, c3, rfl, hN3, hB3⟩; have tx := blk_new w3 (.cells #[.int .i64 x.kind, .int .i64 x.n, .slice A3 x.names.length c3] 43 (0, 0)); have xa := blk_cell tx 0; have xb := blk_cell tx 1; have xc := blk_cell tx 2; have xx := blk_frozen tx 0; have xy := blk_frozen tx 1; have xz := blk_frozen tx 2; have xl := blk_lt tx; have O4 := Lib.hid (HO.out.below (below_alloc hB3 (.cells #[.int .i64 x.kind, .int .i64 x.n, .slice A3 x.names.length c3] 43 (0, 0)))); have b4 := below_alloc hB3 (.cells #[.int .i64 x.kind, .int .i64 x.n, .slice A3 x.names.length c3] 43 (0, 0)); have hw4 : w.heap.size ≤ (w3.alloc (.cells #[.int .i64 x.kind, .int .i64 x.n, .slice A3 x.names.length c3] 43 (0, 0))).heap.size := Nat.le_trans HB.out.size b4.size)) | (at_builtin; go_must (refine Kd.R_append scK (w0 := w3.alloc (.cells #[.int .i64 x.kind, .int .i64 x.n, .slice A3 x.names.length c3] 43 (0, 0))) (W := w3.alloc (.cells #[.int .i64 x.kind, .int .i64 x.n, .slice A3 x.names.length c3] 43 (0, 0))) w.heap.size rfl _ _ 23 43 (.agg #[.int .i64 0, .int .i64 0, .slice none 0 0]) 40 rfl Tryz.underlying23 info_stage rfl (by decide) (by omega) (.slice A6 ps.length c6) (ps.map cellsOf) (cellsOf (x, ⟨A3, x.names.length, c3⟩)) [.int .i64 x.kind, .int .i64 x.n, .slice A3 x.names.length c3] (fun j => w.heap.size ≤ j) (fun _ => False) rfl (by show Value.slice (some ⟨w3.heap.size + 1, 0, none⟩) 1 1 = _; simp) ⟨[_], [_, _], rfl, rfl, [_], [_], rfl, rfl, rfl⟩ (fun _ hk => hk.elim) (by intro k hk; omega) O4.out.row (Below.refl _ _) hw4 (by have := HPL.out; rw [List.length_map]; omega) ?_; rintro v6 w6 hV6 hB6 hG6 hat6)))
          (have hob : some w3.heap.size ≠ (Value.slice A6 ps.length c6).ownBlock := (by intro e; have := Kd.R_lt HO.out.row _ e.symm; have := hB3.size; omega); have nX := blk_grown tx hG6 hob; have nO : OutPs w6 w.heap.size v6 (ps ++ [(x, ⟨A3, x.names.length, c3⟩)]) := (OutPs.snoc O4.out (b := wr.heap.size) (Kd.R_alloc hN3 _) HB.out.size (fun p hp k hk => Kd.R_lt (HO.out.names p hp) k hk) hV6 hG6); have nB : Below w.heap.size w w6 := below_weaken (bw_trans HB.out b4) (Nat.le_refl _) hB6; have nN : Kd.string.R 9 w6 w.heap.size (fun k => w.heap.size ≤ k) (.slice A3 x.names.length c3) x.names := nO.names (x, ⟨A3, x.names.length, c3⟩) (by simp))
          have NO := Lib.hid nO
          have NB := Lib.hid nB
          clear xa xb xc xx xy xz xl tx hV6 hB6 hG6 hat6 O4 b4 hw4 hN3 hB3 hob nO nB nN q0 q1 q2 q3
          have xa := blk_cell nX 0; have xb := blk_cell nX 1; have xc := blk_cell nX 2; have xx := blk_frozen nX 0; have xy := blk_frozen nX 1; have xz := blk_frozen nX 2; have xl := blk_lt nX
          clear nX
          go_wp2_with fail
          go_roundg (raw.length - (i + 1))
          case rel => exact ⟨i + 1, ps ++ [(x, ⟨A3, x.names.length, c3⟩)], [], rfl, by omega, by omega, by go_num, by rw [List.map_append]; have h := HMS'.out; rw [nextHd, if_neg (by rw [HT.out]; simp)] at h; exact Lib.hid h, Lib.hid (by rw [List.length_append, HPL.out]; rfl), HHN, HHL, NO.out, rfl, NB.out⟩
          case measure => have := HM.out; omega
    · have hend : (raw.take 8).drop i = [] := by rw [List.drop_eq_nil_iff, List.length_take]; omega
      have HE : Hid (madeS raw = ps.map Prod.fst) := Lib.hid (by rw [HMS.out, hend]; simp [madeF])
      have HO := Lib.hid hO
      have HB := Lib.hid hB
      by_cases h1 : i < raw.length
      · have h2 : i = 8 := by omega
        subst h2
        have h1' : (8 : Int) < raw.length := by omega
        clear hend hO hA hB hm hlt h1 hi h8 hic
        go_wp2_with fail
        go_ret
        exact ⟨_, ps, rfl, HE.out.symm, HO.out, HB.out⟩
      · have h1' : (raw.length : Int) ≤ i := by omega
        clear hend hO hA hB hm hlt h1 hi h8
        go_wp2_with fail
        go_ret
        exact ⟨_, ps, rfl, HE.out.symm, HO.out, HB.out⟩
end Go.Proofs.YtjcnjpljngabfaaGreatDoor
