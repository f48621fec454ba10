import Derived.Test.YtjcnjpljngabfaaGreatDoorQ2
import Derived.Test.YtjcnjpljngabfaaGreatDoorM1
import Derived.RegionTactic
import Derived.ChangeAlike
namespace Go.Proofs.YtjcnjpljngabfaaGreatDoor
open Go.RowKit Go.Proofs.YtjcnjpljngabfaaGreatDoorW.PrintWords
set_option linter.unusedVariables false
set_option linter.unusedSimpArgs false
/-! the library's functions on lists of texts, over whatever is read as such -/
theorem strs_plain {w : World} {A : Option Addr} {n : Nat} {xs : List BA} (h : Kd.string.C w A n xs) (hp : 0 < n) :
    ∃ b off, A = some ⟨b, off, none⟩ ∧ ∀ j, j < xs.length → w.cell? ⟨b, off + j, none⟩ = some (.string (xs.getD j ByteArray.empty)) := by
  obtain ⟨hl, _, hc⟩ := h
  obtain ⟨⟨b, off, sp⟩, rfl, hr⟩ := hc hp
  have hat : ∀ j, j < xs.length → w.cell? ((⟨b, off, sp⟩ : Addr).add j) = some (.string (xs.getD j ByteArray.empty)) := by
    intro j hj
    obtain ⟨c, _, hcc, hu⟩ := hr j xs[j] (List.getElem?_eq_getElem hj)
    have hcc : c = [.string xs[j]] := hcc
    subst hcc
    have := hu 0 _ rfl
    rw [show j * Kd.string.sz + 0 = j from Nat.mul_one j] at this
    rw [this, List.getD_eq_getElem?_getD, List.getElem?_eq_getElem hj]; rfl
  cases sp with
  | none => exact ⟨b, off, rfl, fun j hj => by rw [← add_at]; exact hat j hj⟩
  | some x =>
    exfalso
    have h0 := hat 0 (by omega)
    simp [Addr.add, World.cell?] at h0
    split at h0 <;> simp_all
theorem containsS_hasT (l : List BA) (x : BA) : Lib.containsS l x = hasT l x := by
  rw [Bool.eq_iff_iff, Lib.containsS_iff, hasT_iff]
theorem contains_calls (A : Option Addr) (c : Nat) (xs : List BA) (x : BA) (w : World) (h : Kd.string.C w A xs.length xs) :
    Calls Tryz.prog 79 #[.slice A xs.length c, .string x] w fun e w' => e = .returned (.bool (hasT xs x)) ∧ w = w' := by
  by_cases hp : 0 < xs.length
  · obtain ⟨b, off, rfl, hc⟩ := strs_plain h hp
    refine (Tryz.slices_Contains_string b off xs.length c xs x w (Nat.le_refl _) h.2.1 hc).mono ?_
    rintro e w' ⟨rfl, rfl⟩
    exact ⟨by rw [List.take_of_length_le (Nat.le_refl _), containsS_hasT], rfl⟩
  · obtain rfl : xs = [] := List.eq_nil_of_length_eq_zero (by omega)
    refine (Tryz.slices_Contains_string_empty A c x w).mono ?_
    rintro e w' ⟨rfl, rfl⟩
    exact ⟨rfl, rfl⟩
/-- a list of texts that is read, or the nil list -/
def Ahd (w : World) (g : Nat) (v : Value) (o : Option (List BA)) : Prop :=
  match o with
  | none => v = .slice none 0 0
  | some l => ∃ ad c, v = .slice (some ad) l.length c ∧ ad.block ≠ g ∧ Kd.string.C w (some ad) l.length l
/-- what a call of stage leaves -/
def StageP (w w' : World) (g : Nat) (s : BA) (F : Nat) (r : Rd Stg) (e : Ending) : Prop :=
  match r with
  | .bad a => ∃ (k n : Int) (A : Option Addr) (l c : Nat), e = .returned (.tuple #[.agg #[.int .i64 k, .int .i64 n, .slice A l c], .int .i64 a])
  | .ok x ws => ∃ v, e = .returned (.tuple #[.agg #[.int .i64 x.kind, .int .i64 x.n, v], .int .i64 (-1)]) ∧ Kd.string.R 9 w' w.heap.size (fun k => w.heap.size ≤ k) v x.names ∧ RAt w' g s ws F
theorem kind_w (ws : List Wd) (k : Nat) (hk : kindOf (hdT ws) = k) (hs : (hdT ws).size ≤ 140737488351232) (w : World) :
    Calls Tryz.prog 76 #[.string (hdT ws)] w fun e w' => e = .returned (.int .i64 k) ∧ Below w.heap.size w w' := by
  rw [← hk]; exact kind_calls _ hs w
theorem hdT_size {w : World} {g : Nat} {s : BA} {ws : List Wd} {F : Nat} (h : RAt w g s ws F) : (hdT ws).size ≤ s.size := by
  obtain ⟨i, hi, _, hw, _⟩ := h
  cases ws with
  | nil => exact Nat.zero_le _
  | cons x r =>
    obtain ⟨t, a⟩ := x
    rcases tok_cons hi hw with ⟨rfl, _⟩ | ⟨hne, _, _, _, _, h, _⟩
    · exact Nat.zero_le _
    · simp only [hdT, if_neg hne]; omega
theorem bnd_many {k many : Nat} (h2 : (bnd (k : Int)).2.2.2 = many) : many ≤ 64 := by
  have : (bnd (k : Int)).2.2.2 ≤ 64 := by unfold bnd; (repeat' split) <;> decide
  omega
theorem arr4 {c : Array Value} (h : c.size = 4) : ∃ c0 c1 c2 c3, c = #[c0, c1, c2, c3] := by
  obtain ⟨l⟩ := c
  match l, h with
  | [c0, c1, c2, c3], _ => exact ⟨c0, c1, c2, c3, rfl⟩
theorem names_full {odd : Bool} {F few many : Nat} {acc : List BA} {ws : List Wd} (h : many ≤ acc.length) : namesS odd F few many acc ws = .ok acc ws := by
  cases ws with
  | nil => rw [namesS.eq_def]; simp [h]
  | cons x r => obtain ⟨t, a⟩ := x; rw [namesS.eq_def]; simp [h]
theorem name_empty : isName ByteArray.empty = false := by decide +kernel
theorem sz0 {x : BA} (h : x.size = 0) : x = ByteArray.empty := ByteArray.ext (Array.eq_empty_of_size_eq_zero h)
theorem hdT_pos {w : World} {g : Nat} {s t : BA} {a F : Nat} {r : List Wd} (h : RAt w g s ((t, a) :: r) F) (ht : t ≠ barT) : 0 < t.size := by
  obtain ⟨i, hi, _, hw, _⟩ := h
  rcases tok_cons hi hw with ⟨h0, _⟩ | ⟨_, hs, _⟩
  · exact absurd h0 ht
  · exact hs
theorem name_barT : isName barT = false := by decide +kernel
theorem names_exit {w : World} {g : Nat} {s : BA} {odd : Bool} {F few many : Nat} {acc : List BA} {ws : List Wd} (h : RAt w g s ws F) (h0 : (hdT ws).size = 0) (hb : hdBad odd ws = false) (hf : few ≤ acc.length) : namesS odd F few many acc ws = .ok acc ws := by
  cases ws with
  | nil =>
    have hb : odd = false := hb
    rw [namesS.eq_def]; simp [hf, hb]
  | cons x r =>
    obtain ⟨t, a⟩ := x
    by_cases ht : t = barT
    · rw [namesS.eq_def]; simp [hf, ht]
    · have := hdT_pos h ht
      rw [hdT, if_neg ht] at h0; omega
theorem names_bad {odd : Bool} {F few many : Nat} {acc : List BA} {ws : List Wd} (hm : acc.length < many) (hx : ¬ ((hdT ws).size = 0 ∧ hdBad odd ws = false ∧ few ≤ acc.length)) (hn : isName (hdT ws) = false ∨ hasT acc (hdT ws) = true) : namesS odd F few many acc ws = .bad (hdA F ws) := by
  cases ws with
  | nil =>
    rw [namesS.eq_def]; dsimp only
    rw [if_neg (Nat.not_le_of_lt hm), if_neg (show ¬(odd = false ∧ few ≤ acc.length) from fun h => hx ⟨rfl, h⟩)]; rfl
  | cons x r =>
    obtain ⟨t, a⟩ := x
    rw [namesS.eq_def]; dsimp only
    rw [if_neg (Nat.not_le_of_lt hm)]
    by_cases ht : t = barT
    · subst ht
      rw [if_neg (fun h => hx ⟨rfl, rfl, h.2⟩), if_neg (fun h => absurd (name_barT.symm.trans h.1) (by decide))]; rfl
    · rw [hdT, if_neg ht] at hn
      rw [if_neg (fun h => ht h.1), if_neg (fun h => by rcases hn with e | e <;> rw [e] at h <;> simp at h)]; rfl
theorem names_go {odd : Bool} {F few many : Nat} {acc : List BA} {ws : List Wd} (hm : acc.length < many) (h1 : isName (hdT ws) = true) (h2 : hasT acc (hdT ws) = false) : ∃ t a r, ws = (t, a) :: r ∧ hdT ws = t ∧ namesS odd F few many acc ws = namesS odd F few many (acc ++ [t]) r := by
  cases ws with
  | nil => exact absurd (name_empty.symm.trans h1) (by decide)
  | cons x r =>
    obtain ⟨t, a⟩ := x
    by_cases ht : t = barT
    · subst ht; exact absurd (name_empty.symm.trans h1) (by decide)
    · have e : hdT ((t, a) :: r) = t := by rw [hdT, if_neg ht]
      rw [e] at h1 h2
      refine ⟨t, a, r, rfl, e, ?_⟩
      rw [namesS.eq_def]; dsimp only
      rw [if_neg (Nat.not_le_of_lt hm), if_neg (fun h => ht h.1), if_pos ⟨h1, h2⟩]
theorem info_str : (Tryz.prog.info? 9).map (fun i => (i.zero, i.size, i.bytes)) = some (some (.string ⟨#[]⟩), 1, 16) := by kernel_rfl
theorem gb_own {a b c : World} {r o : Option Nat} (h : a.grownBy b r) (k : b.grownBy c o) (ho : ∀ k, o = some k → a.heap.size ≤ k) : a.grownBy c r :=
  ⟨k.os.trans h.os, k.tape.trans h.tape, k.output.trans h.output, Nat.le_trans h.size k.size, fun i hi hr => (k.block i (Nat.lt_of_lt_of_le hi h.size) (by intro e; have := ho i e.symm; omega)).trans (h.block i hi hr)⟩
theorem many_one {k many : Nat} (h : k = 1) (h2 : (bnd (k : Int)).2.2.2 = many) : many = 1 := by
  subst h
  have e2 : (bnd ((1 : Nat) : Int)).2.2.2 = 1 := by decide
  omega
theorem blk_newn {n : Nat} (w : World) (o : Obj) (h : w.heap.size = n) : (w.alloc o).heap[n]? = some o := h ▸ blk_new w o
theorem pass_y (g n : Nat) (s t x : BA) (a F : Nat) (ws : List Wd) (bad : Bool) (ht : t ≠ barT) (hx : n + x.size = t.size) (hs : s.size ≤ 140737488351232) (w : World) (h : RAt w g s ((t, a) :: ws) F) (z : Int) (hz : z = ((a + n : Nat) : Int)) :
    Calls Tryz.prog 51 #[.pointer (some ⟨g, 0, none⟩), .agg #[.string x, .int .i64 z, .bool false, .bool bad]] w fun e w' =>
      e = .returned (.tuple #[]) ∧ RAt w' g s ws F ∧ w.grownBy w' (some g) := by
  subst hz; exact pass_x g n s t x a ws bad ht hx hs w h
set_option maxRecDepth 100000 in
set_option maxHeartbeats 4000000 in
theorem stage_go (g : Nat) (s : BA) (t : BA) (a : Nat) (r : List Wd) (F k : Nat) (hs : s.size ≤ 140737488351232) (va : Value) (ahead : Option (List BA)) (w : World) (h : RAt w g s ((t, a) :: r) F) (ha : Ahd w g va ahead)
    (HK : Hid (kindOf (hdT ((t, a) :: r)) = k)) (HZ : Hid ((hdT ((t, a) :: r)).size ≤ s.size)) (HT : Hid (kindOf t = k)) (k1 : ((k : Int) == 0) = false) (k0 : ¬k = 0) (hka : ¬(ahead.isSome = true ∧ k ≠ 9 ∧ k ≠ 10 ∧ k ≠ 13)) :
    Calls Tryz.prog 48 #[.pointer (some ⟨g, 0, none⟩), va] w fun e w' => StageP w w' g s F (stageS spanOf (decide (F < s.size)) F ahead ((t, a) :: r)) e ∧ w.grownBy w' (some g) := by
  -- the stage goes on
  obtain ⟨few, many, hfm⟩ : ∃ few many : Nat, (bnd k).2.2.1 = few ∧ (bnd k).2.2.2 = many := by
    have : 0 ≤ (bnd k).2.2.1 ∧ 0 ≤ (bnd k).2.2.2 := by unfold bnd; (repeat' split) <;> decide
    exact ⟨(bnd k).2.2.1.toNat, (bnd k).2.2.2.toNat, by omega⟩
  have hlg := h.lt
  go_enter Tryz.func48, Tryz.ntmps48
  let T0 := bodyPost Tryz.prog Tryz.f48 (fun _ _ => True)
  generalize hfn : bodyPost Tryz.prog Tryz.f48 (fun e w' => StageP w w' g s F (stageS spanOf (decide (F < s.size)) F ahead ((t, a) :: r)) e ∧ w.grownBy w' (some g)) = Q0
  go_upto_region 3 with (first | (go_at_call 47; refine (next_w g s _ F hs _ (h.al _)).mono ?_; rintro e w1 ⟨rfl, h1, hg1⟩; have G1 := gb_trans (gb_alloc (gb_refl w (some g)) _) hg1; have b0 := blk_grown (blk_new w (.cells #[.int .i64 0, .int .i64 0, .slice none 0 0] 43)) hg1 (by intro e; injection e with e; omega); have ea := blk_cell b0 0; have eb := blk_cell b0 1; have ec := blk_cell b0 2; have ex := blk_frozen b0 0; have ey := blk_frozen b0 1; have ez := blk_frozen b0 2; have el := blk_lt b0) | (go_at_call 76; go_must (refine (kind_w _ k HK.out (Nat.le_trans HZ.out hs) _).mono ?_; rintro e w2 ⟨rfl, hb2⟩; have G2 := gb_below (gb_alloc G1 _) hb2; have l1 := el; clear ea eb ec ex ey ez el; have h2 := (h1.al _).below hb2; have b1 := blk_below (blk_alloc b0 _) hb2; have tk := blk_below (blk_new w1 _) hb2; have ea := blk_cell b1 0; have eb := blk_cell b1 1; have ec := blk_cell b1 2; have ex := blk_frozen b1 0; have ey := blk_frozen b1 1; have ez := blk_frozen b1 2; have el := blk_lt b1; have ta := blk_cell tk 0; have tb := blk_cell tk 1; have tc := blk_cell tk 2; have td := blk_cell tk 3; have tl := blk_lt tk)))
  have l0 : w.heap.size < w1.heap.size := by have := hg1.size; simp at this; omega
  have l12 : w1.heap.size < w2.heap.size := by have := hb2.size; simp at this; omega
  go_cut [43] (fun v wx => v = .bool false ∧ RAt wx g s ((t, a) :: r) F ∧ wx.heap[w.heap.size]? = some (.cells #[.int .i64 0, .int .i64 0, .slice none 0 0] 43 (0, 0)) ∧ wx.heap[w1.heap.size]? = some (.cells #[.string (hdT ((t, a) :: r)), .int .i64 a, .bool (hdBar ((t, a) :: r)), .bool (hdBad (decide (F < s.size)) ((t, a) :: r))] 103 (0, 0)) ∧ wx.heap[w2.heap.size]? = some (.cells #[.int .i64 k, .int .i64 0, .slice none 0 0] 43 (0, 0)) ∧ w.grownBy wx (some g) ∧ wx.heap.size = w2.heap.size + 1)
  case first =>
    have hx1 := h2.al (.cells #[.int .i64 k, .int .i64 0, .slice none 0 0] 43)
    have hx2 := blk_alloc b1 (.cells #[.int .i64 k, .int .i64 0, .slice none 0 0] 43)
    have hx3 := blk_alloc tk (.cells #[.int .i64 k, .int .i64 0, .slice none 0 0] 43)
    have hx4 := blk_new w2 (.cells #[.int .i64 k, .int .i64 0, .slice none 0 0] 43)
    have hx5 := gb_alloc G2 (.cells #[.int .i64 k, .int .i64 0, .slice none 0 0] 43)
    have HX := Lib.hid (And.intro hx1 (And.intro hx2 (And.intro hx3 (And.intro hx4 hx5))))
    clear hx1 hx2 hx3 hx4 hx5
    cases ahead with
    | none =>
      obtain rfl : va = .slice none 0 0 := ha
      clear hka
      go_wp2_with fail
      go_meet
      have HX := HX.out
      exact ⟨rfl, HX.1, HX.2.1, HX.2.2.1, HX.2.2.2.1, HX.2.2.2.2, by simp⟩
    | some l =>
      obtain ⟨ad, c, rfl, hag, hrd⟩ := ha
      clear hrd
      have hnn := fun W => run_neq_slice_nil_any (P := Tryz.prog) W 41 9 (some ad) l.length c 0 0 Tryz.underlying41
      have hk3 : k = 9 ∨ (k ≠ 9 ∧ k = 10) ∨ (k ≠ 9 ∧ k ≠ 10 ∧ k = 13) := by
        have : ¬ (k ≠ 9 ∧ k ≠ 10 ∧ k ≠ 13) := fun h => hka ⟨rfl, h⟩
        omega
      clear hka
      rcases hk3 with hk | ⟨n1, hk⟩ | ⟨n1, n2, hk⟩
      · have a9 : ((k : Int) != 9) = false := by simp [hk]
        clear hk
        go_wp2_with fail
        go_meet
        have HX := HX.out
        exact ⟨rfl, HX.1, HX.2.1, HX.2.2.1, HX.2.2.2.1, HX.2.2.2.2, by simp⟩
      · have a9 : ((k : Int) != 9) = true := by rw [bne_iff_ne]; omega
        have a10 : ((k : Int) != 10) = false := by simp [hk]
        clear hk n1
        go_wp2_with fail
        go_meet
        have HX := HX.out
        exact ⟨rfl, HX.1, HX.2.1, HX.2.2.1, HX.2.2.2.1, HX.2.2.2.2, by simp⟩
      · have a9 : ((k : Int) != 9) = true := by rw [bne_iff_ne]; omega
        have a10 : ((k : Int) != 10) = true := by rw [bne_iff_ne]; omega
        have a13 : ((k : Int) != 13) = false := by simp [hk]
        clear hk n1 n2
        go_wp2_with fail
        go_meet
        have HX := HX.out
        exact ⟨rfl, HX.1, HX.2.1, HX.2.2.1, HX.2.2.2.1, HX.2.2.2.2, by simp⟩
  case rest =>
    obtain ⟨rfl, hR, hb0, hbT, hbX, hG, hsz⟩ := hcut
    clear b1 tk ea eb ec ex ey ez el ta tb tc td tl G1 G2 h1 h2 hg1 hb2 b0
    have lg := hR.lt
    have ta := blk_cell hbT 0; have tb := blk_cell hbT 1; have tc := blk_cell hbT 2; have td := blk_cell hbT 3; have tl := blk_lt hbT
    have xa := blk_cell hbX 0; have xb := blk_cell hbX 1; have xc := blk_cell hbX 2; have xx := blk_frozen hbX 0; have xy := blk_frozen hbX 1; have xz := blk_frozen hbX 2; have xl := blk_lt hbX
    have l2 : g < w1.heap.size := by omega
    have l3 : g < w2.heap.size := by omega
    go_upto_region 7 with (first | ((go_at_call 51; go_must (refine (pass_w g s _ _ _ F _ hs _ hR).mono ?_; rintro e w3 ⟨rfl, w3h, w3g⟩)); clear ta tb tc td tl xa xb xc xx xy xz xl lg; have pb0 := blk_grown hb0 w3g (by intro e; injection e with e; omega); have pbT := blk_grown hbT w3g (by intro e; injection e with e; omega); have pbX := blk_grown hbX w3g (by intro e; injection e with e; omega); have G3 := gb_trans hG w3g; have xa := blk_cell pbX 0; have xb := blk_cell pbX 1; have xc := blk_cell pbX 2; have xx := blk_frozen pbX 0; have xy := blk_frozen pbX 1; have xz := blk_frozen pbX 2; have xl := blk_lt pbX; have ta := blk_cell pbT 0; have tb := blk_cell pbT 1; have tc := blk_cell pbT 2; have td := blk_cell pbT 3; have tl := blk_lt pbT) | (go_at_call 77; refine (bounds_calls _ _).mono ?_; rintro e w4 ⟨rfl, rfl⟩))
    go_cut [] (fun wx => RAt wx g s r F ∧ wx.heap[w.heap.size]? = some (.cells #[.int .i64 0, .int .i64 0, .slice none 0 0] 43 (0, 0)) ∧ wx.heap[w1.heap.size]? = some (.cells #[.string (hdT r), .int .i64 (hdA F r), .bool (hdBar r), .bool (hdBad (decide (F < s.size)) r)] 103 (0, 0)) ∧ wx.heap[w2.heap.size]? = some (.cells #[.int .i64 k, .int .i64 0, .slice none 0 0] 43 (0, 0)) ∧ w.grownBy wx (some g))
    case first =>
      go_wp2_with ((go_at_call 47; go_must (refine (next_w g s _ F hs _ w3h).mono ?_; rintro e w4 ⟨rfl, w4h, w4g⟩)); clear ta tb tc td tl xa xb xc xx xy xz xl; have qb0 := blk_grown pb0 w4g (by intro e; injection e with e; omega); have qbT := blk_grown pbT w4g (by intro e; injection e with e; omega); have qbX := blk_grown pbX w4g (by intro e; injection e with e; omega); have G4 := gb_trans G3 w4g; have xa := blk_cell qbX 0; have xb := blk_cell qbX 1; have xc := blk_cell qbX 2; have xx := blk_frozen qbX 0; have xy := blk_frozen qbX 1; have xz := blk_frozen qbX 2; have xl := blk_lt qbX; have ta := blk_cell qbT 0; have tb := blk_cell qbT 1; have tc := blk_cell qbT 2; have td := blk_cell qbT 3; have tx := blk_frozen qbT 0; have ty := blk_frozen qbT 1; have tz := blk_frozen qbT 2; have tw := blk_frozen qbT 3; have tl := blk_lt qbT)
      go_meet
      exact ⟨(((w4h.set (by dsimp only; omega) _).set (by dsimp only; omega) _).set (by dsimp only; omega) _).set (by dsimp only; omega) _, (by repeat (first | (with_reducible exact qb0) | (with_reducible apply blk_alloc) | (with_reducible apply blk_drewN) | (with_reducible apply blk_drew) | (with_reducible apply blk_set) | (with_reducible refine blk_far ?_ (by first | (dsimp only; omega) | omega | (simp; done) | (simp; omega)) _))), blk_set (blk_set (blk_set (blk_set qbT 0 _) 1 _) 2 _) 3 _, (by repeat (first | (with_reducible exact qbX) | (with_reducible apply blk_alloc) | (with_reducible apply blk_drewN) | (with_reducible apply blk_drew) | (with_reducible apply blk_set) | (with_reducible refine blk_far ?_ (by first | (dsimp only; omega) | omega | (simp; done) | (simp; omega)) _))), (by repeat (first | assumption | (with_reducible apply gb_alloc) | (with_reducible apply gb_drewN) | (with_reducible apply gb_drew) | (with_reducible refine gb_set ?_ (.inl rfl) _) | (with_reducible refine gb_set ?_ (.inr (by first | (dsimp only; omega) | omega | (simp; done) | (simp; omega))) _) | (with_reducible apply gb_refl)))⟩
    case rest =>
      obtain ⟨hR, hb0, hbT, hbX, hG⟩ := hcut
      clear pb0 pbT pbX G3 w3h w3g ta tb tc td tl xa xb xc xx xy xz xl
      have lg := hR.lt
      have ta := blk_cell hbT 0; have tb := blk_cell hbT 1; have tc := blk_cell hbT 2; have td := blk_cell hbT 3; have tx := blk_frozen hbT 0; have ty := blk_frozen hbT 1; have tz := blk_frozen hbT 2; have tw := blk_frozen hbT 3; have tl := blk_lt hbT
      have xa := blk_cell hbX 0; have xb := blk_cell hbX 1; have xc := blk_cell hbX 2; have xx := blk_frozen hbX 0; have xy := blk_frozen hbX 1; have xz := blk_frozen hbX 2; have xl := blk_lt hbX
      have za := blk_cell hb0 0; have zb := blk_cell hb0 1; have zc := blk_cell hb0 2; have zx := blk_frozen hb0 0; have zy := blk_frozen hb0 1; have zz := blk_frozen hb0 2; have zl := blk_lt hb0
      go_upto_block 0 with fail
      have HFM := Lib.hid hfm
      clear hfm
      go_cut [10] (fun v10 wx => ∃ (ws2 : List Wd) (f2 : Nat) (n : Int) (tc : Array Value), v10 = .int .i64 f2 ∧ tc.size = 4 ∧ Hid (stageS spanOf (decide (F < s.size)) F ahead ((t, a) :: r) = (namesS (decide (F < s.size)) F f2 many [] ws2).map fun l => ⟨k, n, l⟩) ∧ RAt wx g s ws2 F ∧ wx.heap[w.heap.size]? = some (.cells #[.int .i64 0, .int .i64 0, .slice none 0 0] 43 (0, 0)) ∧ wx.heap[w1.heap.size]? = some (.cells tc 103 (0, 0)) ∧ wx.heap[w2.heap.size]? = some (.cells #[.int .i64 k, .int .i64 n, .slice none 0 0] 43 (0, 0)) ∧ w.grownBy wx (some g))
      case first =>
        by_cases k1' : k = 1
        · skip
          as_aux_lemma =>
            have z1 : ((k : Int) == 1) = true := by simp [k1']
            by_cases hby : hdT r = byT
            · obtain ⟨a2, r2, rfl, hst⟩ := st_by (odd := decide (F < s.size)) (F := F) (t := t) (a := a) HT.out ⟨k0, hka⟩ k1' hby
              have HS := Lib.hid hst
              have hb1 : (hdT ((byT, a2) :: r2)).toList = [98, 121] := by rw [hby]; decide +kernel
              have em : many = 1 := many_one k1' HFM.out.2
              have EM := Lib.hid em
              clear hst hby k1' hka k0 em
              go_wp2_with ((go_at_call 51; go_must (refine (pass_w g s _ _ _ F _ hs _ hR).mono ?_; rintro e w4 ⟨rfl, w4h, w4g⟩)); clear hb1)
              go_meet
              exact ⟨r2, 1, 0, _, rfl, rfl, by rw [EM.out]; exact HS, w4h, blk_grown hb0 w4g (by intro e; injection e with e; omega), blk_grown hbT w4g (by intro e; injection e with e; omega), blk_grown hbX w4g (by intro e; injection e with e; omega), gb_trans hG w4g⟩
            · have hst := st_noby (odd := decide (F < s.size)) (F := F) (t := t) (a := a) HT.out ⟨k0, hka⟩ k1' hby
              have HS := Lib.hid hst
              have hb1 : (!((hdT r).toList == [98, 121])) = true := by rw [ByteArray.toList_eq]; simp only [Bool.not_eq_true', beq_eq_false_iff_ne]; intro h; exact hby (ByteArray.ext (Array.toList_inj.1 h))
              have K1 := Lib.hid k1'
              clear hst hby k1' hka k0
              go_wp2_with fail
              (try simp only [Exit.inBlock, Exit.then]); subst hfn; refine bodyPost_ret (results_ct rfl _ _ w.heap.size 43 _ (0, 0) _ rfl (by repeat (first | (with_reducible exact hb0) | (with_reducible apply blk_alloc) | (with_reducible apply blk_drewN) | (with_reducible apply blk_drew) | (with_reducible apply blk_set) | (with_reducible refine blk_far ?_ (by first | (dsimp only; omega) | omega | (simp; done) | (simp; omega)) _))) Tryz.underlying43 rfl (by kernel_rfl)) rfl ?_; refine ⟨?_, ?_⟩
              · rw [HS.out]; exact ⟨_, rfl, Kd.R_nil _ _ _ _ _, ((hR.set (by first | (dsimp only; omega) | omega | (simp; done) | (simp; omega)) _).set (by first | (dsimp only; omega) | omega | (simp; done) | (simp; omega)) _).set (by first | (dsimp only; omega) | omega | (simp; done) | (simp; omega)) _⟩
              · exact (by repeat (first | assumption | (with_reducible apply gb_alloc) | (with_reducible apply gb_drewN) | (with_reducible apply gb_drew) | (with_reducible refine gb_set ?_ (.inl rfl) _) | (with_reducible refine gb_set ?_ (.inr (by first | (dsimp only; omega) | omega | (simp; done) | (simp; omega))) _) | (with_reducible apply gb_refl)))
        by_cases k13 : k = 13
        · skip
          as_aux_lemma =>
            have z1 : ((k : Int) == 1) = false := by simp; omega
            have z2 : ((k : Int) == 13) = true := by simp [k13]
            obtain ⟨y, hy⟩ : ∃ y, nameT (hdT r) = y := ⟨_, rfl⟩
            obtain ⟨n, hn⟩ : ∃ n : Nat, (if fallT (hdT r) then 1 else 0) = n := ⟨_, rfl⟩
            have hns := nameT_size (hdT r)
            have hds := hdT_size hR
            rw [hn, hy] at hns
            have HNS := Lib.hid hns
            have HX : Hid (y.size ≤ s.size) := Lib.hid (by omega)
            clear hns hds
            have HY := Lib.hid hy
            have HN1 := Lib.hid hn
            clear hy hn
            obtain ⟨fl, hfl⟩ : ∃ fl, fallT (hdT r) = fl := ⟨_, rfl⟩
            have HFL := Lib.hid hfl
            clear hfl
            go_upto_region 14 with fail
            go_cut [83] (fun v wx => v = .bool fl ∧ wx = wc)
            case first =>
              by_cases hz : (hdT r).size = 0
              · have e1 := tl_nil hz
                have hf := HFL.out
                rw [fall_nil hz] at hf
                subst hf
                clear hka k0 k1' k13 hz
                go_wp2_with fail
                go_meet
                exact ⟨rfl, rfl⟩
              · have hz' : 0 < (hdT r).size := by omega
                have e1 := tl_ne hz'
                have hf := HFL.out
                rw [fall_eq hz'] at hf
                have e2 : (((hdT r)[0].toNat : Int) == 45) = fl := by rw [← hf, Bool.eq_iff_iff]; simp; omega
                have e3 := tl_empty hz'
                clear hka k0 k1' k13 hz hf
                go_wp2_with fail
                go_meet
                exact ⟨rfl, rfl⟩
            case rest =>
              obtain ⟨rfl, rfl⟩ := hcut
              go_upto_if 83 with fail
              go_cut [] (fun wx => RAt wx g s r F ∧ wx.heap[w.heap.size]? = some (.cells #[.int .i64 0, .int .i64 0, .slice none 0 0] 43 (0, 0)) ∧ wx.heap[w1.heap.size]? = some (.cells #[.string y, .int .i64 (hdA F r), .bool (hdBar r), .bool (hdBad (decide (F < s.size)) r)] 103 (0, 0)) ∧ wx.heap[w2.heap.size]? = some (.cells #[.int .i64 k, .int .i64 n, .slice none 0 0] 43 (0, 0)) ∧ w.grownBy wx (some g))
              case first =>
                have hy := HY.out
                have hn := HN1.out
                have hf := HFL.out
                rw [nameT, hf] at hy
                rw [hf] at hn
                cases fl with
                | true =>
                  have hy : (hdT r).extract 1 (hdT r).size = y := hy
                  have hn : 1 = n := hn
                  subst hy hn
                  clear hka k0 k1' k13 hf
                  have hz' : 1 ≤ (hdT r).size := by
                    rcases Nat.eq_zero_or_pos (hdT r).size with h0 | h0
                    · have := fall_nil h0; rw [HFL.out] at this; cases this
                    · exact h0
                  go_wp2_with fail
                  go_meet
                  exact ⟨(by repeat (first | (with_reducible exact hR) | (with_reducible apply RAt.al) | (with_reducible apply RAt.dr) | (with_reducible refine RAt.set ?_ (by first | (dsimp only; omega) | omega | (simp; done) | (simp; omega)) _))), (by repeat (first | (with_reducible exact hb0) | (with_reducible apply blk_alloc) | (with_reducible apply blk_drewN) | (with_reducible apply blk_drew) | (with_reducible apply blk_set) | (with_reducible refine blk_far ?_ (by first | (dsimp only; omega) | omega | (simp; done) | (simp; omega)) _))), blk_set (blk_far hbT (by first | (dsimp only; omega) | omega | (simp; done) | (simp; omega)) _) 0 _, blk_far (blk_set hbX 1 _) (by first | (dsimp only; omega) | omega | (simp; done) | (simp; omega)) _, (by repeat (first | assumption | (with_reducible apply gb_alloc) | (with_reducible apply gb_drewN) | (with_reducible apply gb_drew) | (with_reducible refine gb_set ?_ (.inl rfl) _) | (with_reducible refine gb_set ?_ (.inr (by first | (dsimp only; omega) | omega | (simp; done) | (simp; omega))) _) | (with_reducible apply gb_refl)))⟩
                | false =>
                  have hy : hdT r = y := hy
                  have hn : 0 = n := hn
                  subst hy hn
                  clear hka k0 k1' k13 hf
                  go_wp2_with fail
                  go_meet
                  exact ⟨hR, hb0, hbT, hbX, hG⟩
              case rest =>
                clear hR hb0 hbT hbX hG lg ta tb tc td tx ty tz tw tl xa xb xc xx xy xz xl za zb zc zx zy zz zl
                obtain ⟨hR, hb0, hbT, hbX, hG⟩ := hcut
                have lg := hR.lt
                cases hm : mayName ahead y with
                | false =>
                  have HS := Lib.hid (st_sortn (odd := decide (F < s.size)) (F := F) (t := t) (a := a) (r := r) HT.out ⟨k0, hka⟩ k13 (by rw [HY.out]; exact hm))
                  have ta := blk_cell hbT 0; have tb := blk_cell hbT 1; have tc := blk_cell hbT 2; have td := blk_cell hbT 3; have tx := blk_frozen hbT 0; have ty := blk_frozen hbT 1; have tz := blk_frozen hbT 2; have tw := blk_frozen hbT 3; have tl := blk_lt hbT
                  have xa := blk_cell hbX 0; have xb := blk_cell hbX 1; have xc := blk_cell hbX 2; have xx := blk_frozen hbX 0; have xy := blk_frozen hbX 1; have xz := blk_frozen hbX 2; have xl := blk_lt hbX
                  have za := blk_cell hb0 0; have zb := blk_cell hb0 1; have zc := blk_cell hb0 2; have zx := blk_frozen hb0 0; have zy := blk_frozen hb0 1; have zz := blk_frozen hb0 2; have zl := blk_lt hb0
                  cases hnn : isName y with
                  | false =>
                    have HN := Lib.hid hnn
                    clear hnn hm k1' k13 hka k0
                    go_wp2_with (go_at_call 78; go_must (refine (Name_calls _ (Nat.le_trans HX.out hs) _).mono ?_; rintro e w5 ⟨rfl, rfl⟩; rw [HN.out]))
                    go_region
                    go_wp2
                    (try simp only [Exit.inBlock, Exit.then]); subst hfn; refine bodyPost_ret (results_ct rfl _ _ w.heap.size 43 _ (0, 0) _ rfl (by repeat (first | (with_reducible exact hb0) | (with_reducible apply blk_alloc) | (with_reducible apply blk_drewN) | (with_reducible apply blk_drew) | (with_reducible apply blk_set) | (with_reducible refine blk_far ?_ (by first | (dsimp only; omega) | omega | (simp; done) | (simp; omega)) _))) Tryz.underlying43 rfl (by kernel_rfl)) rfl ?_; refine ⟨?_, ?_⟩
                    · rw [HS.out]; exact ⟨_, _, _, _, _, rfl⟩
                    · exact (by repeat (first | assumption | (with_reducible apply gb_alloc) | (with_reducible apply gb_drewN) | (with_reducible apply gb_drew) | (with_reducible refine gb_set ?_ (.inl rfl) _) | (with_reducible refine gb_set ?_ (.inr (by first | (dsimp only; omega) | omega | (simp; done) | (simp; omega))) _) | (with_reducible apply gb_refl)))
                  | true =>
                    cases ahead with
                    | none => simp [mayName, hnn] at hm
                    | some l =>
                      obtain ⟨ad, c, rfl, hag, hrd⟩ := ha
                      have HRD := Lib.hid hrd
                      have hni := fun W => run_neq_slice_nil_any (P := Tryz.prog) W 41 9 (some ad) l.length c 0 0 Tryz.underlying41
                      have hcn : hasT l y = false := by simpa [mayName, hnn] using hm
                      have HN := Lib.hid hnn
                      have HC := Lib.hid hcn
                      clear hnn hm k1' k13 hka k0 hcn hrd
                      go_wp2_with (first | (go_at_call 78; go_must (refine (Name_calls _ (Nat.le_trans HX.out hs) _).mono ?_; rintro e w5 ⟨rfl, rfl⟩; rw [HN.out])) | (go_at_call 79; go_must (refine (contains_calls (some ad) c l _ _ (C_gb HRD.out (g := g) (by repeat (first | assumption | (with_reducible apply gb_alloc) | (with_reducible apply gb_drewN) | (with_reducible apply gb_drew) | (with_reducible refine gb_set ?_ (.inl rfl) _) | (with_reducible refine gb_set ?_ (.inr (by first | (dsimp only; omega) | omega | (simp; done) | (simp; omega))) _) | (with_reducible apply gb_refl))) hag)).mono ?_; rintro e w6 ⟨rfl, rfl⟩; rw [HC.out])))
                      go_region
                      go_wp2
                      (try simp only [Exit.inBlock, Exit.then]); subst hfn; refine bodyPost_ret (results_ct rfl _ _ w.heap.size 43 _ (0, 0) _ rfl (by repeat (first | (with_reducible exact hb0) | (with_reducible apply blk_alloc) | (with_reducible apply blk_drewN) | (with_reducible apply blk_drew) | (with_reducible apply blk_set) | (with_reducible refine blk_far ?_ (by first | (dsimp only; omega) | omega | (simp; done) | (simp; omega)) _))) Tryz.underlying43 rfl (by kernel_rfl)) rfl ?_; refine ⟨?_, ?_⟩
                      · rw [HS.out]; exact ⟨_, _, _, _, _, rfl⟩
                      · exact (by repeat (first | assumption | (with_reducible apply gb_alloc) | (with_reducible apply gb_drewN) | (with_reducible apply gb_drew) | (with_reducible refine gb_set ?_ (.inl rfl) _) | (with_reducible refine gb_set ?_ (.inr (by first | (dsimp only; omega) | omega | (simp; done) | (simp; omega))) _) | (with_reducible apply gb_refl)))
                | true =>
                  have hnn : isName y = true := by rw [mayName.eq_def, Bool.and_eq_true] at hm; exact hm.1
                  obtain ⟨t2, a2, r2, rfl, hne, hh, hst⟩ := st_sorty (odd := decide (F < s.size)) (F := F) (t := t) (a := a) (r := r) HT.out ⟨k0, hka⟩ k13 (by rw [HY.out]; exact hm)
                  have hal := hdA_le hR
                  have hn' : (if fallT (hdT ((t2, a2) :: r2)) = true then (1 : Int) else 0) = (n : Int) := by rw [← HN1.out]; split <;> rfl
                  rw [HY.out, hn'] at hst
                  clear hn'
                  have hns := HNS.out
                  rw [hh] at hns
                  have hn1 : n ≤ 1 := by rw [← HN1.out]; split <;> omega
                  have hbar : hdBar ((t2, a2) :: r2) = false := by simp [hdBar, hne]
                  have ha2 : hdA F ((t2, a2) :: r2) = a2 := rfl
                  rw [hbar] at hbT
                  rw [ha2] at hbT hal
                  have HS := Lib.hid hst
                  have HN := Lib.hid hnn
                  have HNS := Lib.hid hns
                  have wr : wrap64 ((a2 : Int) + (n : Int)) = (a2 : Int) + n := by unfold wrap64; omega
                  have ta := blk_cell hbT 0; have tb := blk_cell hbT 1; have tc := blk_cell hbT 2; have td := blk_cell hbT 3; have tx := blk_frozen hbT 0; have ty := blk_frozen hbT 1; have tz := blk_frozen hbT 2; have tw := blk_frozen hbT 3; have tl := blk_lt hbT
                  have xa := blk_cell hbX 0; have xb := blk_cell hbX 1; have xc := blk_cell hbX 2; have xx := blk_frozen hbX 0; have xy := blk_frozen hbX 1; have xz := blk_frozen hbX 2; have xl := blk_lt hbX
                  have za := blk_cell hb0 0; have zb := blk_cell hb0 1; have zc := blk_cell hb0 2; have zx := blk_frozen hb0 0; have zy := blk_frozen hb0 1; have zz := blk_frozen hb0 2; have zl := blk_lt hb0
                  have K13 := Lib.hid k13
                  have lz := blk_lt hb0
                  have lT := blk_lt hbT
                  have lX := blk_lt hbX
                  cases ahead with
                  | none =>
                    obtain rfl : va = .slice none 0 0 := ha
                    clear hnn hm k1' k13 hka k0 hst hns hbar ha2 hh
                    go_wp2_with (first | (go_at_call 78; go_must (refine (Name_calls _ (Nat.le_trans HX.out hs) _).mono ?_; rintro e w5 ⟨rfl, rfl⟩; rw [HN.out])) | (go_at_call 51; go_must (refine (pass_y g n s t2 y a2 F r2 _ hne HNS.out hs _ (by repeat (first | (with_reducible exact hR) | (with_reducible apply RAt.al) | (with_reducible apply RAt.dr) | (with_reducible refine RAt.set ?_ (by first | (dsimp only; omega) | omega | (simp; done) | (simp; omega)) _))) _ (by omega)).mono ?_; rintro e w7 ⟨rfl, w7h, w7g⟩; have n0 : w7.heap[w.heap.size]? = some (.cells #[.int .i64 0, .int .i64 0, .slice none 0 0] 43 (0, 0)) := blk_grown (w := World.alloc _ _) (by repeat (first | (with_reducible exact hb0) | (with_reducible apply blk_alloc) | (with_reducible apply blk_drewN) | (with_reducible apply blk_drew) | (with_reducible apply blk_set) | (with_reducible refine blk_far ?_ (by first | (dsimp only; omega) | omega | (simp; done) | (simp; omega)) _))) w7g (by intro e; injection e with e; omega); have nX : w7.heap[w2.heap.size]? = some (.cells #[.int .i64 k, .int .i64 n, .slice (some ⟨wc.heap.size, 0, none⟩) 1 1] 43 (0, 0)) := blk_grown (w := World.alloc _ _) (blk_alloc (blk_far (blk_set hbX 2 _) (by first | (dsimp only; omega) | omega | (simp; done) | (simp; omega)) _) _) w7g (by intro e; injection e with e; omega); have nB := Lib.hid (blk_grown (w := World.alloc _ _) (blk_newn (n := wc.heap.size) _ _ (by simp only [World.size_setCell])) w7g (by intro e; injection e with e; omega)); have nG : w.grownBy w7 (some g) := gb_trans (by repeat (first | assumption | (with_reducible apply gb_alloc) | (with_reducible apply gb_drewN) | (with_reducible apply gb_drew) | (with_reducible refine gb_set ?_ (.inl rfl) _) | (with_reducible refine gb_set ?_ (.inr (by first | (dsimp only; omega) | omega | (simp; done) | (simp; omega))) _) | (with_reducible apply gb_refl))) w7g; (clear ta tb tc td tx ty tz tw tl xa xb xc xx xy xz xl za zb zc zx zy zz zl); have xa := blk_cell nX 0; have xb := blk_cell nX 1; have xc := blk_cell nX 2; have xx := blk_frozen nX 0; have xy := blk_frozen nX 1; have xz := blk_frozen nX 2; have xl := blk_lt nX; have za := blk_cell n0 0; have zb := blk_cell n0 1; have zc := blk_cell n0 2; have zx := blk_frozen n0 0; have zy := blk_frozen n0 1; have zz := blk_frozen n0 2; have zl := blk_lt n0)))
                    ((try simp only [Exit.inBlock, Exit.then]); subst hfn; refine bodyPost_ret (results_ct rfl _ _ w.heap.size 43 _ (0, 0) _ rfl (by repeat (first | (with_reducible exact n0) | (with_reducible apply blk_alloc) | (with_reducible apply blk_drewN) | (with_reducible apply blk_drew) | (with_reducible apply blk_set) | (with_reducible refine blk_far ?_ (by first | (dsimp only; omega) | omega | (simp; done) | (simp; omega)) _))) Tryz.underlying43 rfl (by kernel_rfl)) rfl ?_; refine ⟨?_, ?_⟩; rw [HS.out]; exact ⟨_, rfl, R_one (by have nB := nB.out; exact (by repeat (first | (with_reducible exact nB) | (with_reducible apply blk_alloc) | (with_reducible apply blk_drewN) | (with_reducible apply blk_drew) | (with_reducible apply blk_set) | (with_reducible refine blk_far ?_ (by first | (dsimp only; omega) | omega | (simp; done) | (simp; omega)) _)))) (Nat.le_of_lt lz) (Nat.le_of_lt lz), (by repeat (first | (with_reducible exact w7h) | (with_reducible apply RAt.al) | (with_reducible apply RAt.dr) | (with_reducible refine RAt.set ?_ (by first | (dsimp only; omega) | omega | (simp; done) | (simp; omega)) _)))⟩; exact (by repeat (first | assumption | (with_reducible apply gb_alloc) | (with_reducible apply gb_drewN) | (with_reducible apply gb_drew) | (with_reducible refine gb_set ?_ (.inl rfl) _) | (with_reducible refine gb_set ?_ (.inr (by first | (dsimp only; omega) | omega | (simp; done) | (simp; omega))) _) | (with_reducible apply gb_refl))))
                  | some l =>
                    obtain ⟨ad, c, rfl, hag, hrd⟩ := ha
                    have HRD := Lib.hid hrd
                    have hni := fun W => run_neq_slice_nil_any (P := Tryz.prog) W 41 9 (some ad) l.length c 0 0 Tryz.underlying41
                    have hcn : hasT l y = true := by simpa [mayName, hnn] using hm
                    have HC := Lib.hid hcn
                    clear hnn hm k1' k13 hka k0 hst hns hbar ha2 hh hcn hrd
                    go_wp2_with (first | (go_at_call 78; go_must (refine (Name_calls _ (Nat.le_trans HX.out hs) _).mono ?_; rintro e w5 ⟨rfl, rfl⟩; rw [HN.out])) | (go_at_call 79; go_must (refine (contains_calls (some ad) c l _ _ (C_gb HRD.out (g := g) (by repeat (first | assumption | (with_reducible apply gb_alloc) | (with_reducible apply gb_drewN) | (with_reducible apply gb_drew) | (with_reducible refine gb_set ?_ (.inl rfl) _) | (with_reducible refine gb_set ?_ (.inr (by first | (dsimp only; omega) | omega | (simp; done) | (simp; omega))) _) | (with_reducible apply gb_refl))) hag)).mono ?_; rintro e w6 ⟨rfl, rfl⟩; rw [HC.out])) | (go_at_call 51; go_must (refine (pass_y g n s t2 y a2 F r2 _ hne HNS.out hs _ (by repeat (first | (with_reducible exact hR) | (with_reducible apply RAt.al) | (with_reducible apply RAt.dr) | (with_reducible refine RAt.set ?_ (by first | (dsimp only; omega) | omega | (simp; done) | (simp; omega)) _))) _ (by omega)).mono ?_; rintro e w7 ⟨rfl, w7h, w7g⟩; have n0 : w7.heap[w.heap.size]? = some (.cells #[.int .i64 0, .int .i64 0, .slice none 0 0] 43 (0, 0)) := blk_grown (w := World.alloc _ _) (by repeat (first | (with_reducible exact hb0) | (with_reducible apply blk_alloc) | (with_reducible apply blk_drewN) | (with_reducible apply blk_drew) | (with_reducible apply blk_set) | (with_reducible refine blk_far ?_ (by first | (dsimp only; omega) | omega | (simp; done) | (simp; omega)) _))) w7g (by intro e; injection e with e; omega); have nX : w7.heap[w2.heap.size]? = some (.cells #[.int .i64 k, .int .i64 n, .slice (some ⟨wc.heap.size, 0, none⟩) 1 1] 43 (0, 0)) := blk_grown (w := World.alloc _ _) (blk_alloc (blk_far (blk_set hbX 2 _) (by first | (dsimp only; omega) | omega | (simp; done) | (simp; omega)) _) _) w7g (by intro e; injection e with e; omega); have nB := Lib.hid (blk_grown (w := World.alloc _ _) (blk_newn (n := wc.heap.size) _ _ (by simp only [World.size_setCell])) w7g (by intro e; injection e with e; omega)); have nG : w.grownBy w7 (some g) := gb_trans (by repeat (first | assumption | (with_reducible apply gb_alloc) | (with_reducible apply gb_drewN) | (with_reducible apply gb_drew) | (with_reducible refine gb_set ?_ (.inl rfl) _) | (with_reducible refine gb_set ?_ (.inr (by first | (dsimp only; omega) | omega | (simp; done) | (simp; omega))) _) | (with_reducible apply gb_refl))) w7g; (clear ta tb tc td tx ty tz tw tl xa xb xc xx xy xz xl za zb zc zx zy zz zl); have xa := blk_cell nX 0; have xb := blk_cell nX 1; have xc := blk_cell nX 2; have xx := blk_frozen nX 0; have xy := blk_frozen nX 1; have xz := blk_frozen nX 2; have xl := blk_lt nX; have za := blk_cell n0 0; have zb := blk_cell n0 1; have zc := blk_cell n0 2; have zx := blk_frozen n0 0; have zy := blk_frozen n0 1; have zz := blk_frozen n0 2; have zl := blk_lt n0)))
                    ((try simp only [Exit.inBlock, Exit.then]); subst hfn; refine bodyPost_ret (results_ct rfl _ _ w.heap.size 43 _ (0, 0) _ rfl (by repeat (first | (with_reducible exact n0) | (with_reducible apply blk_alloc) | (with_reducible apply blk_drewN) | (with_reducible apply blk_drew) | (with_reducible apply blk_set) | (with_reducible refine blk_far ?_ (by first | (dsimp only; omega) | omega | (simp; done) | (simp; omega)) _))) Tryz.underlying43 rfl (by kernel_rfl)) rfl ?_; refine ⟨?_, ?_⟩; rw [HS.out]; exact ⟨_, rfl, R_one (by have nB := nB.out; exact (by repeat (first | (with_reducible exact nB) | (with_reducible apply blk_alloc) | (with_reducible apply blk_drewN) | (with_reducible apply blk_drew) | (with_reducible apply blk_set) | (with_reducible refine blk_far ?_ (by first | (dsimp only; omega) | omega | (simp; done) | (simp; omega)) _)))) (Nat.le_of_lt lz) (Nat.le_of_lt lz), (by repeat (first | (with_reducible exact w7h) | (with_reducible apply RAt.al) | (with_reducible apply RAt.dr) | (with_reducible refine RAt.set ?_ (by first | (dsimp only; omega) | omega | (simp; done) | (simp; omega)) _)))⟩; exact (by repeat (first | assumption | (with_reducible apply gb_alloc) | (with_reducible apply gb_drewN) | (with_reducible apply gb_drew) | (with_reducible refine gb_set ?_ (.inl rfl) _) | (with_reducible refine gb_set ?_ (.inr (by first | (dsimp only; omega) | omega | (simp; done) | (simp; omega))) _) | (with_reducible apply gb_refl))))
        by_cases kl : 0 < (bnd k).1
        · have z1 : ((k : Int) == 1) = false := by simp; omega
          have z2 : ((k : Int) == 13) = false := by simp; omega
          have HX := Lib.hid (hdT_size hR)
          cases hc : countOf spanOf k (hdT r) with
          | none =>
            have HS := Lib.hid (st_numn (odd := decide (F < s.size)) (F := F) (t := t) (a := a) (r := r) HT.out ⟨k0, hka⟩ k1' k13 kl hc)
            by_cases k3 : k = 3
            · skip
              as_aux_lemma =>
                have z4 : ((k : Int) == 3) = true := by simp [k3]
                have hsp : (spanE (hdT r) == 0) = false := by
                  rw [k3, countOf, if_pos (by rfl)] at hc
                  rw [← spanE_none hc]; decide
                clear k1' k13 hka k0 k3 hc
                go_wp2_with (first | (go_at_call 80; refine (number_calls _ _ (Nat.le_trans HX.out hs) _).mono ?_; rintro e w5 ⟨⟨v, rfl, hv⟩, rfl⟩) | (go_at_call 81; go_must (refine (Span_calls _ (Nat.le_trans HX.out hs) _).mono ?_; rintro e w5 ⟨rfl, hB5⟩; (clear ta tb tc td tx ty tz tw tl xa xb xc xx xy xz xl za zb zc zx zy zz zl); have mT := blk_below hbT hB5; have mX := blk_below hbX hB5; have m0 := blk_below hb0 hB5; have mR := hR.below hB5; have mG := gb_below hG hB5; have ta := blk_cell mT 0; have tb := blk_cell mT 1; have tc := blk_cell mT 2; have td := blk_cell mT 3; have tx := blk_frozen mT 0; have ty := blk_frozen mT 1; have tz := blk_frozen mT 2; have tw := blk_frozen mT 3; have tl := blk_lt mT; have xa := blk_cell mX 0; have xb := blk_cell mX 1; have xc := blk_cell mX 2; have xx := blk_frozen mX 0; have xy := blk_frozen mX 1; have xz := blk_frozen mX 2; have xl := blk_lt mX; have za := blk_cell m0 0; have zb := blk_cell m0 1; have zc := blk_cell m0 2; have zx := blk_frozen m0 0; have zy := blk_frozen m0 1; have zz := blk_frozen m0 2; have zl := blk_lt m0)))
                go_show
                go_region
                go_wp2
                (try simp only [Exit.inBlock, Exit.then]); subst hfn; refine bodyPost_ret (results_ct rfl _ _ w.heap.size 43 _ (0, 0) _ rfl (by repeat (first | (with_reducible exact m0) | (with_reducible apply blk_alloc) | (with_reducible apply blk_drewN) | (with_reducible apply blk_drew) | (with_reducible apply blk_set) | (with_reducible refine blk_far ?_ (by first | (dsimp only; omega) | omega | (simp; done) | (simp; omega)) _))) Tryz.underlying43 rfl (by kernel_rfl)) rfl ?_; refine ⟨?_, ?_⟩
                · rw [HS.out]; exact ⟨_, _, _, _, _, rfl⟩
                · exact (by repeat (first | assumption | (with_reducible apply gb_alloc) | (with_reducible apply gb_drewN) | (with_reducible apply gb_drew) | (with_reducible refine gb_set ?_ (.inl rfl) _) | (with_reducible refine gb_set ?_ (.inr (by first | (dsimp only; omega) | omega | (simp; done) | (simp; omega))) _) | (with_reducible apply gb_refl)))
            · skip
              as_aux_lemma =>
                have z4 : ((k : Int) == 3) = false := by simp; omega
                have HM : Hid ((manyOf (hdT r) (bnd k).2.1).isSome = false) := by
                  rw [countOf, if_neg (by omega)] at hc
                  rw [hc]; exact Lib.hid rfl
                clear k1' k13 hka k0 k3 hc
                go_wp2_with (go_at_call 80; refine (number_calls _ _ (Nat.le_trans HX.out hs) _).mono ?_; rintro e w5 ⟨⟨v, rfl, hv⟩, rfl⟩; have HV := Lib.hid hv; clear hv; rw [HM.out])
                go_region
                go_wp2
                (try simp only [Exit.inBlock, Exit.then]); subst hfn; refine bodyPost_ret (results_ct rfl _ _ w.heap.size 43 _ (0, 0) _ rfl (by repeat (first | (with_reducible exact hb0) | (with_reducible apply blk_alloc) | (with_reducible apply blk_drewN) | (with_reducible apply blk_drew) | (with_reducible apply blk_set) | (with_reducible refine blk_far ?_ (by first | (dsimp only; omega) | omega | (simp; done) | (simp; omega)) _))) Tryz.underlying43 rfl (by kernel_rfl)) rfl ?_; refine ⟨?_, ?_⟩
                · rw [HS.out]; exact ⟨_, _, _, _, _, rfl⟩
                · exact (by repeat (first | assumption | (with_reducible apply gb_alloc) | (with_reducible apply gb_drewN) | (with_reducible apply gb_drew) | (with_reducible refine gb_set ?_ (.inl rfl) _) | (with_reducible refine gb_set ?_ (.inr (by first | (dsimp only; omega) | omega | (simp; done) | (simp; omega))) _) | (with_reducible apply gb_refl)))
          | some n =>
            obtain ⟨t2, a2, r2, rfl, hne, hh, hst⟩ := st_numy (odd := decide (F < s.size)) (F := F) (t := t) (a := a) (r := r) HT.out ⟨k0, hka⟩ k1' k13 kl hc HFM.out
            have HS := Lib.hid hst
            clear hst hh hne
            by_cases k3 : k = 3
            · skip
              as_aux_lemma =>
                have z4 : ((k : Int) == 3) = true := by simp [k3]
                have hsp : (spanE (hdT ((t2, a2) :: r2)) == 0) = true ∧ (n : Int) = spanN (hdT ((t2, a2) :: r2)) := by
                  rw [k3, countOf, if_pos (by rfl)] at hc
                  rw [← spanE_some hc]; exact ⟨by decide, spanN_some hc⟩
                have hse := hsp.1
                have HP := Lib.hid hsp.2
                clear k1' k13 hka k0 k3 hc hsp
                go_wp2_with (first | (go_at_call 80; refine (number_calls _ _ (Nat.le_trans HX.out hs) _).mono ?_; rintro e w5 ⟨⟨v, rfl, hv⟩, rfl⟩) | (go_at_call 81; go_must (refine (Span_calls _ (Nat.le_trans HX.out hs) _).mono ?_; rintro e w5 ⟨rfl, hB5⟩; (clear ta tb tc td tx ty tz tw tl xa xb xc xx xy xz xl za zb zc zx zy zz zl); have mT := blk_below hbT hB5; have mX := blk_below hbX hB5; have m0 := blk_below hb0 hB5; have mR := hR.below hB5; have mG := gb_below hG hB5; have ta := blk_cell mT 0; have tb := blk_cell mT 1; have tc := blk_cell mT 2; have td := blk_cell mT 3; have tx := blk_frozen mT 0; have ty := blk_frozen mT 1; have tz := blk_frozen mT 2; have tw := blk_frozen mT 3; have tl := blk_lt mT; have xa := blk_cell mX 0; have xb := blk_cell mX 1; have xc := blk_cell mX 2; have xx := blk_frozen mX 0; have xy := blk_frozen mX 1; have xz := blk_frozen mX 2; have xl := blk_lt mX; have za := blk_cell m0 0; have zb := blk_cell m0 1; have zc := blk_cell m0 2; have zx := blk_frozen m0 0; have zy := blk_frozen m0 1; have zz := blk_frozen m0 2; have zl := blk_lt m0)) | (go_at_call 51; go_must (refine (pass_w g s _ _ _ F _ hs _ (by repeat (first | (with_reducible exact mR) | (with_reducible apply RAt.al) | (with_reducible apply RAt.dr) | (with_reducible refine RAt.set ?_ (by first | (dsimp only; omega) | omega | (simp; done) | (simp; omega)) _)))).mono ?_; rintro e w6 ⟨rfl, w6h, w6g⟩)))
                go_meet
                rw [← HP.out] at w6g
                exact ⟨r2, few, n, _, rfl, (by rfl), HS, w6h, blk_grown (w := w5.setCell _ _) (by repeat (first | (with_reducible exact m0) | (with_reducible apply blk_alloc) | (with_reducible apply blk_drewN) | (with_reducible apply blk_drew) | (with_reducible apply blk_set) | (with_reducible refine blk_far ?_ (by first | (dsimp only; omega) | omega | (simp; done) | (simp; omega)) _))) w6g (by intro e; injection e with e; omega), blk_grown (w := w5.setCell _ _) (blk_far mT (by dsimp only; omega) _) w6g (by intro e; injection e with e; omega), blk_grown (w := w5.setCell _ _) (blk_set mX 1 _) w6g (by intro e; injection e with e; omega), gb_trans (by repeat (first | assumption | (with_reducible apply gb_alloc) | (with_reducible apply gb_drewN) | (with_reducible apply gb_drew) | (with_reducible refine gb_set ?_ (.inl rfl) _) | (with_reducible refine gb_set ?_ (.inr (by first | (dsimp only; omega) | omega | (simp; done) | (simp; omega))) _) | (with_reducible apply gb_refl))) w6g⟩
            · skip
              as_aux_lemma =>
                have z4 : ((k : Int) == 3) = false := by simp; omega
                have HM : Hid ((manyOf (hdT ((t2, a2) :: r2)) (bnd k).2.1).isSome = true) := by
                  rw [countOf, if_neg (by omega)] at hc
                  rw [hc]; exact Lib.hid rfl
                have HP : Hid (manyOf (hdT ((t2, a2) :: r2)) (bnd k).2.1 = some n) := by
                  rw [countOf, if_neg (by omega)] at hc
                  exact Lib.hid hc
                clear k1' k13 hka k0 k3 hc
                go_wp2_with (first | (go_at_call 80; refine (number_calls _ _ (Nat.le_trans HX.out hs) _).mono ?_; rintro e w5 ⟨⟨v, rfl, hv⟩, rfl⟩; have HV := Lib.hid hv; clear hv; rw [HM.out]) | (go_at_call 51; go_must (refine (pass_w g s _ _ _ F _ hs _ (by repeat (first | (with_reducible exact hR) | (with_reducible apply RAt.al) | (with_reducible apply RAt.dr) | (with_reducible refine RAt.set ?_ (by first | (dsimp only; omega) | omega | (simp; done) | (simp; omega)) _)))).mono ?_; rintro e w6 ⟨rfl, w6h, w6g⟩)))
                go_meet
                obtain rfl := HV.out n HP.out
                exact ⟨r2, few, n, _, rfl, (by rfl), HS, w6h, blk_grown (w := World.setCell _ _ _) (by repeat (first | (with_reducible exact hb0) | (with_reducible apply blk_alloc) | (with_reducible apply blk_drewN) | (with_reducible apply blk_drew) | (with_reducible apply blk_set) | (with_reducible refine blk_far ?_ (by first | (dsimp only; omega) | omega | (simp; done) | (simp; omega)) _))) w6g (by intro e; injection e with e; omega), blk_grown (w := World.setCell _ _ _) (blk_far hbT (by dsimp only; omega) _) w6g (by intro e; injection e with e; omega), blk_grown (w := World.setCell _ _ _) (blk_set hbX 1 _) w6g (by intro e; injection e with e; omega), gb_trans (by repeat (first | assumption | (with_reducible apply gb_alloc) | (with_reducible apply gb_drewN) | (with_reducible apply gb_drew) | (with_reducible refine gb_set ?_ (.inl rfl) _) | (with_reducible refine gb_set ?_ (.inr (by first | (dsimp only; omega) | omega | (simp; done) | (simp; omega))) _) | (with_reducible apply gb_refl))) w6g⟩
        · skip
          as_aux_lemma =>
            have HS := Lib.hid (st_none (odd := decide (F < s.size)) (F := F) (t := t) (a := a) (r := r) HT.out ⟨k0, hka⟩ k1' k13 kl HFM.out)
            have z1 : ((k : Int) == 1) = false := by simp; omega
            have z2 : ((k : Int) == 13) = false := by simp; omega
            have z3 : (bnd k).1 ≤ 0 := by omega
            have e10 : Value.int .i64 (bnd k).2.2.1 = .int .i64 few := by rw [HFM.out.1]
            clear k1' k13 kl hka k0
            go_wp2_with fail
            go_meet
            exact ⟨r, few, 0, _, rfl, rfl, HS, hR, hb0, hbT, hbX, hG⟩
      case rest =>
        skip
        as_aux_lemma =>
          obtain ⟨ws2, f2, n, tc4, rfl, htc, HS, hR1, hb01, hbT1, hbX1, hG1⟩ := hcut
          have hm64 := Lib.hid (bnd_many HFM.out.2)
          clear hR hb0 hbT hbX hG lg ta tb tc td tx ty tz tw tl xa xb xc xx xy xz xl za zb zc zx zy zz zl
          go_upto_block 1 with fail
          go_cut [] (fun wx => ∃ (acc : List BA) (ws3 : List Wd) (v : Value), Hid (namesS (decide (F < s.size)) F f2 many [] ws2 = .ok acc ws3) ∧ RAt wx g s ws3 F ∧ wx.heap[w.heap.size]? = some (.cells #[.int .i64 0, .int .i64 0, .slice none 0 0] 43 (0, 0)) ∧ wx.heap[w2.heap.size]? = some (.cells #[.int .i64 k, .int .i64 n, v] 43 (0, 0)) ∧ Kd.string.R 9 wx w.heap.size (fun j => w.heap.size ≤ j) v acc ∧ w.grownBy wx (some g))
          case first =>
            go_wp2_with fail
            go_loopg [] ws2.length (fun m wr => ∃ (acc : List BA) (ws3 : List Wd) (v c0 c1 c2 c3 : Value), m = ws3.length ∧ Hid (namesS (decide (F < s.size)) F f2 many acc ws3 = namesS (decide (F < s.size)) F f2 many [] ws2) ∧ RAt wr g s ws3 F ∧ wr.heap[w.heap.size]? = some (.cells #[.int .i64 0, .int .i64 0, .slice none 0 0] 43 (0, 0)) ∧ wr.heap[w1.heap.size]? = some (.cells #[c0, c1, c2, c3] 103 (0, 0)) ∧ wr.heap[w2.heap.size]? = some (.cells #[.int .i64 k, .int .i64 n, v] 43 (0, 0)) ∧ Kd.string.R 9 wr w.heap.size (fun j => w.heap.size ≤ j) v acc ∧ w.grownBy wr (some g))
            case atStart =>
              obtain ⟨c0, c1, c2, c3, rfl⟩ := arr4 htc
              exact ⟨[], ws2, .slice none 0 0, c0, c1, c2, c3, rfl, rfl, hR1, hb01, hbT1, hbX1, Kd.R_nil _ _ _ _ _, hG1⟩
            case round =>
              obtain ⟨acc, ws3, v, c0, c1, c2, c3, hm, HN, hR, hb0, hbT, hbX, hV, hG⟩ := hrel
              clear hR1 hb01 hbT1 hbX1 hG1 htc
              have lg := hR.lt
              obtain ⟨A, c, rfl⟩ := Kd.R_slice hV
              have ta := blk_cell hbT 0; have tb := blk_cell hbT 1; have tc := blk_cell hbT 2; have td := blk_cell hbT 3; have tx := blk_frozen hbT 0; have ty := blk_frozen hbT 1; have tz := blk_frozen hbT 2; have tw := blk_frozen hbT 3; have tl := blk_lt hbT
              have xa := blk_cell hbX 0; have xb := blk_cell hbX 1; have xc := blk_cell hbX 2; have xx := blk_frozen hbX 0; have xy := blk_frozen hbX 1; have xz := blk_frozen hbX 2; have xl := blk_lt hbX
              have za := blk_cell hb0 0; have zb := blk_cell hb0 1; have zc := blk_cell hb0 2; have zx := blk_frozen hb0 0; have zy := blk_frozen hb0 1; have zz := blk_frozen hb0 2; have zl := blk_lt hb0
              by_cases hle : many ≤ acc.length
              · have HE := Lib.hid (HN.out.symm.trans (names_full (F := F) (few := f2) (odd := decide (F < s.size)) (ws := ws3) hle))
                have hle' : (many : Int) ≤ acc.length := by omega
                clear hle HN
                go_wp2_with fail
                go_meet
                exact ⟨acc, ws3, _, HE, hR, hb0, hbX, hV, hG⟩
              · have hlt : (acc.length : Int) < many := by omega
                go_upto_region 33 with fail
                go_cut [] (fun wx => RAt wx g s ws3 F ∧ wx.heap[w.heap.size]? = some (.cells #[.int .i64 0, .int .i64 0, .slice none 0 0] 43 (0, 0)) ∧ wx.heap[w1.heap.size]? = some (.cells #[.string (hdT ws3), .int .i64 (hdA F ws3), .bool (hdBar ws3), .bool (hdBad (decide (F < s.size)) ws3)] 103 (0, 0)) ∧ wx.heap[w2.heap.size]? = some (.cells #[.int .i64 k, .int .i64 n, .slice A acc.length c] 43 (0, 0)) ∧ Kd.string.R 9 wx w.heap.size (fun j => w.heap.size ≤ j) (.slice A acc.length c) acc ∧ w.grownBy wx (some g))
                case first =>
                  have HV := Lib.hid hV
                  clear hV
                  go_wp2_with ((go_at_call 47; go_must (refine (next_w g s _ F hs _ hR).mono ?_; rintro e w4 ⟨rfl, w4h, w4g⟩)); (clear ta tb tc td tx ty tz tw tl xa xb xc xx xy xz xl za zb zc zx zy zz zl); have qb0 := blk_grown hb0 w4g (by intro e; injection e with e; omega); have qbT := blk_grown hbT w4g (by intro e; injection e with e; omega); have qbX := blk_grown hbX w4g (by intro e; injection e with e; omega); have G4 := gb_trans hG w4g; have xa := blk_cell qbX 0; have xb := blk_cell qbX 1; have xc := blk_cell qbX 2; have xx := blk_frozen qbX 0; have xy := blk_frozen qbX 1; have xz := blk_frozen qbX 2; have xl := blk_lt qbX; have ta := blk_cell qbT 0; have tb := blk_cell qbT 1; have tc := blk_cell qbT 2; have td := blk_cell qbT 3; have tx := blk_frozen qbT 0; have ty := blk_frozen qbT 1; have tz := blk_frozen qbT 2; have tw := blk_frozen qbT 3; have tl := blk_lt qbT)
                  go_meet
                  have v0 := Kd.R_grown HV.out w4g (by intro k hk e; injection e with e; omega)
                  have v1 := Kd.R_set v0 qbT (by simp [Kd.string, Kd.scalar]) 0 (.string (hdT ws3))
                  have q1 := blk_set qbT 0 (.string (hdT ws3))
                  have v2 := Kd.R_set v1 q1 (by simp [Kd.string, Kd.scalar]) 1 (.int .i64 (hdA F ws3))
                  have q2 := blk_set q1 1 (.int .i64 (hdA F ws3))
                  have v3 := Kd.R_set v2 q2 (by simp [Kd.string, Kd.scalar]) 2 (.bool (hdBar ws3))
                  have q3 := blk_set q2 2 (.bool (hdBar ws3))
                  have v4 := Kd.R_set v3 q3 (by simp [Kd.string, Kd.scalar]) 3 (.bool (hdBad (decide (F < s.size)) ws3))
                  have q4 := blk_set q3 3 (.bool (hdBad (decide (F < s.size)) ws3))
                  exact ⟨(by repeat (first | (with_reducible exact w4h) | (with_reducible apply RAt.al) | (with_reducible apply RAt.dr) | (with_reducible refine RAt.set ?_ (by first | (dsimp only; omega) | omega | (simp; done) | (simp; omega)) _))), (by repeat (first | (with_reducible exact qb0) | (with_reducible apply blk_alloc) | (with_reducible apply blk_drewN) | (with_reducible apply blk_drew) | (with_reducible apply blk_set) | (with_reducible refine blk_far ?_ (by first | (dsimp only; omega) | omega | (simp; done) | (simp; omega)) _))), q4, (by repeat (first | (with_reducible exact qbX) | (with_reducible apply blk_alloc) | (with_reducible apply blk_drewN) | (with_reducible apply blk_drew) | (with_reducible apply blk_set) | (with_reducible refine blk_far ?_ (by first | (dsimp only; omega) | omega | (simp; done) | (simp; omega)) _))), v4, (by repeat (first | assumption | (with_reducible apply gb_alloc) | (with_reducible apply gb_drewN) | (with_reducible apply gb_drew) | (with_reducible refine gb_set ?_ (.inl rfl) _) | (with_reducible refine gb_set ?_ (.inr (by first | (dsimp only; omega) | omega | (simp; done) | (simp; omega))) _) | (with_reducible apply gb_refl)))⟩
                case rest =>
                  obtain ⟨hR2, hb02, hbT2, hbX2, hV2, hG2⟩ := hcut
                  clear hR hb0 hbT hbX hV hG ta tb tc td tx ty tz tw tl xa xb xc xx xy xz xl za zb zc zx zy zz zl
                  have lg := hR2.lt
                  have ta := blk_cell hbT2 0; have tb := blk_cell hbT2 1; have tc := blk_cell hbT2 2; have td := blk_cell hbT2 3; have tx := blk_frozen hbT2 0; have ty := blk_frozen hbT2 1; have tz := blk_frozen hbT2 2; have tw := blk_frozen hbT2 3; have tl := blk_lt hbT2
                  have xa := blk_cell hbX2 0; have xb := blk_cell hbX2 1; have xc := blk_cell hbX2 2; have xx := blk_frozen hbX2 0; have xy := blk_frozen hbX2 1; have xz := blk_frozen hbX2 2; have xl := blk_lt hbX2
                  have za := blk_cell hb02 0; have zb := blk_cell hb02 1; have zc := blk_cell hb02 2; have zx := blk_frozen hb02 0; have zy := blk_frozen hb02 1; have zz := blk_frozen hb02 2; have zl := blk_lt hb02
                  have HX := Lib.hid (hdT_size hR2)
                  have HV := Lib.hid hV2
                  have HC := Lib.hid (Kd.R_reads' hV2).2.2
                  clear hV2
                  by_cases hz : (hdT ws3).size = 0
                  · have e1 := tl_nil hz
                    by_cases hb : hdBad (decide (F < s.size)) ws3 = false
                    · by_cases hf : f2 ≤ acc.length
                      · have HE := Lib.hid (HN.out.symm.trans (names_exit hR2 hz hb hf))
                        have hf' : (f2 : Int) ≤ acc.length := by omega
                        clear hz hf hle HN
                        go_wp2_with fail
                        go_meet
                        exact ⟨acc, ws3, _, HE, hR2, hb02, hbX2, HV.out, hG2⟩
                      · have HE := Lib.hid (HN.out.symm.trans (names_bad (by omega) (fun h => hf h.2.2) (.inl (by rw [sz0 hz]; exact name_empty))))
                        have HNM : Hid (isName (hdT ws3) = false) := by rw [sz0 hz]; exact name_empty
                        have hf' : (acc.length : Int) < f2 := by omega
                        clear hz hf hle
                        go_wp2_with (go_at_call 78; refine (Name_calls _ (Nat.le_trans HX.out hs) _).mono ?_; rintro e w5 ⟨rfl, rfl⟩; rw [HNM.out])
                        go_region
                        go_wp2
                        (try simp only [Exit.inBlock, Exit.then]); subst hfn; refine bodyPost_ret (results_ct rfl _ _ w.heap.size 43 _ (0, 0) _ rfl (by repeat (first | (with_reducible exact hb02) | (with_reducible apply blk_alloc) | (with_reducible apply blk_drewN) | (with_reducible apply blk_drew) | (with_reducible apply blk_set) | (with_reducible refine blk_far ?_ (by first | (dsimp only; omega) | omega | (simp; done) | (simp; omega)) _))) Tryz.underlying43 rfl (by kernel_rfl)) rfl ?_; refine ⟨?_, ?_⟩
                        · rw [HS.out, HE.out]; exact ⟨_, _, _, _, _, rfl⟩
                        · exact (by repeat (first | assumption | (with_reducible apply gb_alloc) | (with_reducible apply gb_drewN) | (with_reducible apply gb_drew) | (with_reducible refine gb_set ?_ (.inl rfl) _) | (with_reducible refine gb_set ?_ (.inr (by first | (dsimp only; omega) | omega | (simp; done) | (simp; omega))) _) | (with_reducible apply gb_refl)))
                    · have HE := Lib.hid (HN.out.symm.trans (names_bad (by omega) (fun h => hb h.2.1) (.inl (by rw [sz0 hz]; exact name_empty))))
                      have HNM : Hid (isName (hdT ws3) = false) := by rw [sz0 hz]; exact name_empty
                      have hb' : hdBad (decide (F < s.size)) ws3 = true := by simpa using hb
                      clear hz hb hle
                      go_wp2_with (go_at_call 78; refine (Name_calls _ (Nat.le_trans HX.out hs) _).mono ?_; rintro e w5 ⟨rfl, rfl⟩; rw [HNM.out])
                      go_region
                      go_wp2
                      (try simp only [Exit.inBlock, Exit.then]); subst hfn; refine bodyPost_ret (results_ct rfl _ _ w.heap.size 43 _ (0, 0) _ rfl (by repeat (first | (with_reducible exact hb02) | (with_reducible apply blk_alloc) | (with_reducible apply blk_drewN) | (with_reducible apply blk_drew) | (with_reducible apply blk_set) | (with_reducible refine blk_far ?_ (by first | (dsimp only; omega) | omega | (simp; done) | (simp; omega)) _))) Tryz.underlying43 rfl (by kernel_rfl)) rfl ?_; refine ⟨?_, ?_⟩
                      · rw [HS.out, HE.out]; exact ⟨_, _, _, _, _, rfl⟩
                      · exact (by repeat (first | assumption | (with_reducible apply gb_alloc) | (with_reducible apply gb_drewN) | (with_reducible apply gb_drew) | (with_reducible refine gb_set ?_ (.inl rfl) _) | (with_reducible refine gb_set ?_ (.inr (by first | (dsimp only; omega) | omega | (simp; done) | (simp; omega))) _) | (with_reducible apply gb_refl)))
                  · have hz' : 0 < (hdT ws3).size := by omega
                    have e1 := tl_ne hz'
                    cases hnm : isName (hdT ws3) with
                    | false =>
                      have HE := Lib.hid (HN.out.symm.trans (names_bad (by omega) (fun h => hz h.1) (.inl hnm)))
                      have HNM : Hid (isName (hdT ws3) = false) := Lib.hid hnm
                      clear hz hz' hle hnm
                      go_wp2_with (go_at_call 78; refine (Name_calls _ (Nat.le_trans HX.out hs) _).mono ?_; rintro e w5 ⟨rfl, rfl⟩; rw [HNM.out])
                      go_region
                      go_wp2
                      (try simp only [Exit.inBlock, Exit.then]); subst hfn; refine bodyPost_ret (results_ct rfl _ _ w.heap.size 43 _ (0, 0) _ rfl (by repeat (first | (with_reducible exact hb02) | (with_reducible apply blk_alloc) | (with_reducible apply blk_drewN) | (with_reducible apply blk_drew) | (with_reducible apply blk_set) | (with_reducible refine blk_far ?_ (by first | (dsimp only; omega) | omega | (simp; done) | (simp; omega)) _))) Tryz.underlying43 rfl (by kernel_rfl)) rfl ?_; refine ⟨?_, ?_⟩
                      · rw [HS.out, HE.out]; exact ⟨_, _, _, _, _, rfl⟩
                      · exact (by repeat (first | assumption | (with_reducible apply gb_alloc) | (with_reducible apply gb_drewN) | (with_reducible apply gb_drew) | (with_reducible refine gb_set ?_ (.inl rfl) _) | (with_reducible refine gb_set ?_ (.inr (by first | (dsimp only; omega) | omega | (simp; done) | (simp; omega))) _) | (with_reducible apply gb_refl)))
                    | true =>
                      have HNM : Hid (isName (hdT ws3) = true) := Lib.hid hnm
                      cases hh : hasT acc (hdT ws3) with
                      | true =>
                        have HE := Lib.hid (HN.out.symm.trans (names_bad (by omega) (fun h => hz h.1) (.inr hh)))
                        have HH := Lib.hid hh
                        clear hz hz' hle hnm hh
                        go_wp2_with (first | (go_at_call 78; refine (Name_calls _ (Nat.le_trans HX.out hs) _).mono ?_; rintro e w5 ⟨rfl, rfl⟩; rw [HNM.out]) | (go_at_call 79; go_must (refine (contains_calls A c acc _ _ HC.out).mono ?_; rintro e w6 ⟨rfl, rfl⟩; rw [HH.out])))
                        go_region
                        go_wp2
                        (try simp only [Exit.inBlock, Exit.then]); subst hfn; refine bodyPost_ret (results_ct rfl _ _ w.heap.size 43 _ (0, 0) _ rfl (by repeat (first | (with_reducible exact hb02) | (with_reducible apply blk_alloc) | (with_reducible apply blk_drewN) | (with_reducible apply blk_drew) | (with_reducible apply blk_set) | (with_reducible refine blk_far ?_ (by first | (dsimp only; omega) | omega | (simp; done) | (simp; omega)) _))) Tryz.underlying43 rfl (by kernel_rfl)) rfl ?_; refine ⟨?_, ?_⟩
                        · rw [HS.out, HE.out]; exact ⟨_, _, _, _, _, rfl⟩
                        · exact (by repeat (first | assumption | (with_reducible apply gb_alloc) | (with_reducible apply gb_drewN) | (with_reducible apply gb_drew) | (with_reducible refine gb_set ?_ (.inl rfl) _) | (with_reducible refine gb_set ?_ (.inr (by first | (dsimp only; omega) | omega | (simp; done) | (simp; omega))) _) | (with_reducible apply gb_refl)))
                      | false =>
                        obtain ⟨t3, a3, r3, rfl, ht3, hgo⟩ := names_go (odd := decide (F < s.size)) (F := F) (few := f2) (many := many) (by omega) hnm hh
                        have HE := Lib.hid (hgo.symm.trans HN.out)
                        have HH := Lib.hid hh
                        have HT3 := Lib.hid ht3
                        have hal : (acc.length + 1) * 16 ≤ 140737488355328 := by have := hm64.out; omega
                        have HAL := Lib.hid hal
                        have HGS := Lib.hid (show w.heap.size ≤ wc.heap.size from hG2.size)
                        clear hz hz' hle hnm hh hgo ht3 hal
                        go_wp2_with (first | (go_at_call 78; refine (Name_calls _ (Nat.le_trans HX.out hs) _).mono ?_; rintro e w5 ⟨rfl, rfl⟩; rw [HNM.out]) | (go_at_call 79; go_must (refine (contains_calls A c acc _ _ HC.out).mono ?_; rintro e w6 ⟨rfl, rfl⟩; rw [HH.out])) | (at_builtin; refine Kd.R_append Kd.string (w0 := wc) (W := wc) w.heap.size rfl _ _ 41 9 (.string ⟨#[]⟩) 16 rfl Tryz.underlying41 info_str rfl (by decide) (by omega) (.slice A acc.length c) acc (hdT ((t3, a3) :: r3)) [.string (hdT ((t3, a3) :: r3))] (fun j => w.heap.size ≤ j) (fun _ => False) rfl rfl rfl (fun _ hk => hk.elim) (by intro k hk; have := HGS.out; omega) HV.out (Below.refl _ _) HGS.out HAL.out ?_; rintro v6 w6 hV6 hB6 hG6 hat6; clear xa xb xc xx xy xz xl ta tb tc td tx ty tz tw tl za zb zc zx zy zz zl; have nX := blk_grown hbX2 hG6 (Kd.R_ne HV.out hbX2 (by simp [Kd.string, Kd.scalar])); have nT := blk_grown hbT2 hG6 (Kd.R_ne HV.out hbT2 (by simp [Kd.string, Kd.scalar])); have hR6 := hR2.gr hG6 (Kd.R_away HV.out (fun k hk e => by omega)); have n0 := blk_grown hb02 hG6 (Kd.R_ne HV.out hb02 (by simp [Kd.string, Kd.scalar])); obtain ⟨A6, c6, rfl⟩ := Kd.R_slice hV6; have ta := blk_cell nT 0; have tb := blk_cell nT 1; have tc := blk_cell nT 2; have td := blk_cell nT 3; have tx := blk_frozen nT 0; have ty := blk_frozen nT 1; have tz := blk_frozen nT 2; have tw := blk_frozen nT 3; have tl := blk_lt nT; have xa := blk_cell nX 0; have xb := blk_cell nX 1; have xc := blk_cell nX 2; have xx := blk_frozen nX 0; have xy := blk_frozen nX 1; have xz := blk_frozen nX 2; have xl := blk_lt nX; have za := blk_cell n0 0; have zb := blk_cell n0 1; have zc := blk_cell n0 2; have zx := blk_frozen n0 0; have zy := blk_frozen n0 1; have zz := blk_frozen n0 2; have zl := blk_lt n0) | (go_at_call 51; go_must (refine (pass_w g s _ _ _ F _ hs _ (by repeat (first | (with_reducible exact hR6) | (with_reducible apply RAt.al) | (with_reducible apply RAt.dr) | (with_reducible refine RAt.set ?_ (by first | (dsimp only; omega) | omega | (simp; done) | (simp; omega)) _)))).mono ?_; rintro e w7 ⟨rfl, w7h, w7g⟩)))
                        go_roundg r3.length
                        case rel =>
                          have GG := gb_own hG2 hG6 (fun k hk => Kd.R_base HV.out k hk)
                          have nV := Kd.R_set hV6 nX (by simp [Kd.string, Kd.scalar]) 2 (.slice A6 (acc ++ [hdT ((t3, a3) :: r3)]).length c6)
                          rw [show (acc ++ [hdT ((t3, a3) :: r3)]).length = acc.length + 1 by simp] at nV
                          refine ⟨acc ++ [hdT ((t3, a3) :: r3)], r3, _, _, _, _, _, rfl, (by rw [HT3.out]; exact HE), w7h, blk_grown (w := w6.setCell _ _) (by repeat (first | (with_reducible exact n0) | (with_reducible apply blk_alloc) | (with_reducible apply blk_drewN) | (with_reducible apply blk_drew) | (with_reducible apply blk_set) | (with_reducible refine blk_far ?_ (by first | (dsimp only; omega) | omega | (simp; done) | (simp; omega)) _))) w7g (by intro e; injection e with e; omega), blk_grown (w := w6.setCell _ _) (blk_far nT (by dsimp only; omega) _) w7g (by intro e; injection e with e; omega), blk_grown (w := w6.setCell _ _) (blk_set nX 2 _) w7g (by intro e; injection e with e; omega), Kd.R_grown nV w7g (by intro k hk e; injection e with e; omega), gb_trans (by repeat (first | assumption | (with_reducible apply gb_alloc) | (with_reducible apply gb_drewN) | (with_reducible apply gb_drew) | (with_reducible refine gb_set ?_ (.inl rfl) _) | (with_reducible refine gb_set ?_ (.inr (by first | (dsimp only; omega) | omega | (simp; done) | (simp; omega))) _) | (with_reducible apply gb_refl))) w7g⟩
                        case measure => rw [hm]; simp
          case rest =>
            obtain ⟨acc, ws3, v, HN, hR, hb0, hbX, hV, hG⟩ := hcut
            obtain ⟨A, c, rfl⟩ := Kd.R_slice hV
            have lg := hR.lt
            have xa := blk_cell hbX 0; have xb := blk_cell hbX 1; have xc := blk_cell hbX 2; have xx := blk_frozen hbX 0; have xy := blk_frozen hbX 1; have xz := blk_frozen hbX 2; have xl := blk_lt hbX
            have za := blk_cell hb0 0; have zb := blk_cell hb0 1; have zc := blk_cell hb0 2; have zx := blk_frozen hb0 0; have zy := blk_frozen hb0 1; have zz := blk_frozen hb0 2; have zl := blk_lt hb0
            go_wp2_with fail
            (try simp only [Exit.inBlock, Exit.then]); subst hfn; refine bodyPost_ret (results_ct rfl _ _ w.heap.size 43 _ (0, 0) _ rfl (by repeat (first | (with_reducible exact hb0) | (with_reducible apply blk_alloc) | (with_reducible apply blk_drewN) | (with_reducible apply blk_drew) | (with_reducible apply blk_set) | (with_reducible refine blk_far ?_ (by first | (dsimp only; omega) | omega | (simp; done) | (simp; omega)) _))) Tryz.underlying43 rfl (by kernel_rfl)) rfl ?_; refine ⟨?_, ?_⟩
            · rw [HS.out, HN.out]
              exact ⟨_, rfl, Kd.R_set (Kd.R_set (Kd.R_set hV hb0 (by simp [Kd.string, Kd.scalar]) _ _) (by repeat (first | (with_reducible exact hb0) | (with_reducible apply blk_alloc) | (with_reducible apply blk_drewN) | (with_reducible apply blk_drew) | (with_reducible apply blk_set) | (with_reducible refine blk_far ?_ (by first | (dsimp only; omega) | omega | (simp; done) | (simp; omega)) _))) (by simp [Kd.string, Kd.scalar]) _ _) (by repeat (first | (with_reducible exact hb0) | (with_reducible apply blk_alloc) | (with_reducible apply blk_drewN) | (with_reducible apply blk_drew) | (with_reducible apply blk_set) | (with_reducible refine blk_far ?_ (by first | (dsimp only; omega) | omega | (simp; done) | (simp; omega)) _))) (by simp [Kd.string, Kd.scalar]) _ _, (by repeat (first | (with_reducible exact hR) | (with_reducible apply RAt.al) | (with_reducible apply RAt.dr) | (with_reducible refine RAt.set ?_ (by first | (dsimp only; omega) | omega | (simp; done) | (simp; omega)) _)))⟩
            · exact (by repeat (first | assumption | (with_reducible apply gb_alloc) | (with_reducible apply gb_drewN) | (with_reducible apply gb_drew) | (with_reducible refine gb_set ?_ (.inl rfl) _) | (with_reducible refine gb_set ?_ (.inr (by first | (dsimp only; omega) | omega | (simp; done) | (simp; omega))) _) | (with_reducible apply gb_refl)))
set_option maxRecDepth 100000 in
set_option maxHeartbeats 1000000 in
theorem stage_calls (g : Nat) (s : BA) (ws : List Wd) (F : Nat) (hs : s.size ≤ 140737488351232) (va : Value) (ahead : Option (List BA)) (w : World) (h : RAt w g s ws F) (ha : Ahd w g va ahead) :
    Calls Tryz.prog 48 #[.pointer (some ⟨g, 0, none⟩), va] w fun e w' => StageP w w' g s F (stageS spanOf (decide (F < s.size)) F ahead ws) e ∧ w.grownBy w' (some g) := by
  obtain ⟨k, hk⟩ : ∃ k, kindOf (hdT ws) = k := ⟨_, rfl⟩
  have hz := hdT_size h
  have HK := Lib.hid hk
  have HZ := Lib.hid hz
  clear hk hz
  by_cases k0 : k = 0
  · subst k0
    have hst : stageS spanOf (decide (F < s.size)) F ahead ws = .bad (hdA F ws) := by
      have := HK.out
      rw [kind_hd] at this
      cases ws with
      | nil => rfl
      | cons x r => obtain ⟨t, a⟩ := x; dsimp only at this; simp [stageS, hdA, this]
    have HS := Lib.hid hst
    clear hst
    go_enter Tryz.func48, Tryz.ntmps48
    have hlg := h.lt
    go_wp2_with (first | (go_at_call 47; refine (next_w g s _ F hs _ (h.al _)).mono ?_; rintro e w1 ⟨rfl, h1, hg1⟩; have G1 := gb_trans (gb_alloc (gb_refl w (some g)) _) hg1; have b0 := blk_grown (blk_new w (.cells #[.int .i64 0, .int .i64 0, .slice none 0 0] 43)) hg1 (by intro e; injection e with e; omega); have ea := blk_cell b0 0; have eb := blk_cell b0 1; have ec := blk_cell b0 2; have ex := blk_frozen b0 0; have ey := blk_frozen b0 1; have ez := blk_frozen b0 2; have el := blk_lt b0) | (go_at_call 76; go_must (refine (kind_w _ 0 HK.out (Nat.le_trans HZ.out hs) _).mono ?_; rintro e w2 ⟨rfl, hb2⟩; have G2 := gb_below (gb_alloc G1 _) hb2; have l1 := el; clear ea eb ec ex ey ez el; have h2 := (h1.al _).below hb2; have b1 := blk_below (blk_alloc b0 _) hb2; have tk := blk_below (blk_new w1 _) hb2; have ea := blk_cell b1 0; have eb := blk_cell b1 1; have ec := blk_cell b1 2; have ex := blk_frozen b1 0; have ey := blk_frozen b1 1; have ez := blk_frozen b1 2; have el := blk_lt b1; have ta := blk_cell tk 0; have tb := blk_cell tk 1; have tc := blk_cell tk 2; have td := blk_cell tk 3; have tl := blk_lt tk)))
    go_region
    go_wp2
    (try simp only [Exit.inBlock, Exit.then]); refine bodyPost_ret (results_ct rfl _ _ w.heap.size 43 _ (0, 0) _ rfl (by repeat (first | (with_reducible exact b1) | (with_reducible apply blk_alloc) | (with_reducible apply blk_drewN) | (with_reducible apply blk_drew) | (with_reducible apply blk_set) | (with_reducible refine blk_far ?_ (by first | (dsimp only; omega) | omega | (simp; done) | (simp; omega)) _))) Tryz.underlying43 rfl (by kernel_rfl)) rfl ?_; refine ⟨?_, ?_⟩
    · rw [HS.out]; exact ⟨_, _, _, _, _, rfl⟩
    · exact (by repeat (first | assumption | (with_reducible apply gb_alloc) | (with_reducible apply gb_drewN) | (with_reducible apply gb_drew) | (with_reducible refine gb_set ?_ (.inl rfl) _) | (with_reducible refine gb_set ?_ (.inr (by first | (dsimp only; omega) | omega | (simp; done) | (simp; omega))) _) | (with_reducible apply gb_refl)))
  -- the words: a first one, and others
  obtain ⟨t, a, r, rfl⟩ : ∃ t a r, ws = (t, a) :: r := by
    cases ws with
    | nil => exfalso; have := HK.out; rw [kind_hd] at this; exact k0 this.symm
    | cons x r => exact ⟨x.1, x.2, r, rfl⟩
  have hkt : kindOf t = k := by have := HK.out; rw [kind_hd] at this; exact this
  have HT := Lib.hid hkt
  have k1 : ((k : Int) == 0) = false := by simp; omega
  clear hkt
  by_cases hka : ahead.isSome = true ∧ k ≠ 9 ∧ k ≠ 10 ∧ k ≠ 13
  · obtain ⟨hsm, k9, k10, k13⟩ := hka
    have hst : stageS spanOf (decide (F < s.size)) F ahead ((t, a) :: r) = .bad a := by
      rw [stageS.eq_def]; dsimp only; rw [if_pos (.inr ⟨hsm, by rw [HT.out]; exact ⟨k9, k10, k13⟩⟩)]
    have HS := Lib.hid hst
    clear hst
    cases ahead with
    | none => cases hsm
    | some l =>
      obtain ⟨ad, c, rfl, hag, hrd⟩ := ha
      have HRD := Lib.hid hrd
      clear hrd
      have hnn := fun W => run_neq_slice_nil_any (P := Tryz.prog) W 41 9 (some ad) l.length c 0 0 Tryz.underlying41
      have a9 : ((k : Int) != 9) = true := by rw [bne_iff_ne]; omega
      have a10 : ((k : Int) != 10) = true := by rw [bne_iff_ne]; omega
      have a13 : ((k : Int) != 13) = true := by rw [bne_iff_ne]; omega
      have hlg := h.lt
      clear k9 k10 k13 k0
      go_enter Tryz.func48, Tryz.ntmps48
      go_wp2_with (first | (go_at_call 47; refine (next_w g s _ F hs _ (h.al _)).mono ?_; rintro e w1 ⟨rfl, h1, hg1⟩; have G1 := gb_trans (gb_alloc (gb_refl w (some g)) _) hg1; have b0 := blk_grown (blk_new w (.cells #[.int .i64 0, .int .i64 0, .slice none 0 0] 43)) hg1 (by intro e; injection e with e; omega); have ea := blk_cell b0 0; have eb := blk_cell b0 1; have ec := blk_cell b0 2; have ex := blk_frozen b0 0; have ey := blk_frozen b0 1; have ez := blk_frozen b0 2; have el := blk_lt b0) | (go_at_call 76; go_must (refine (kind_w _ k HK.out (Nat.le_trans HZ.out hs) _).mono ?_; rintro e w2 ⟨rfl, hb2⟩; have G2 := gb_below (gb_alloc G1 _) hb2; have l1 := el; clear ea eb ec ex ey ez el; have h2 := (h1.al _).below hb2; have b1 := blk_below (blk_alloc b0 _) hb2; have tk := blk_below (blk_new w1 _) hb2; have ea := blk_cell b1 0; have eb := blk_cell b1 1; have ec := blk_cell b1 2; have ex := blk_frozen b1 0; have ey := blk_frozen b1 1; have ez := blk_frozen b1 2; have el := blk_lt b1; have ta := blk_cell tk 0; have tb := blk_cell tk 1; have tc := blk_cell tk 2; have td := blk_cell tk 3; have tl := blk_lt tk)))

      go_region
      go_wp2
      (try simp only [Exit.inBlock, Exit.then]); refine bodyPost_ret (results_ct rfl _ _ w.heap.size 43 _ (0, 0) _ rfl (by repeat (first | (with_reducible exact b1) | (with_reducible apply blk_alloc) | (with_reducible apply blk_drewN) | (with_reducible apply blk_drew) | (with_reducible apply blk_set) | (with_reducible refine blk_far ?_ (by first | (dsimp only; omega) | omega | (simp; done) | (simp; omega)) _))) Tryz.underlying43 rfl (by kernel_rfl)) rfl ?_; refine ⟨?_, ?_⟩
      · rw [HS.out]; exact ⟨_, _, _, _, _, rfl⟩
      · exact (by repeat (first | assumption | (with_reducible apply gb_alloc) | (with_reducible apply gb_drewN) | (with_reducible apply gb_drew) | (with_reducible refine gb_set ?_ (.inl rfl) _) | (with_reducible refine gb_set ?_ (.inr (by first | (dsimp only; omega) | omega | (simp; done) | (simp; omega))) _) | (with_reducible apply gb_refl)))
  exact stage_go g s t a r F k hs va ahead w h ha HK HZ HT k1 k0 hka
end Go.Proofs.YtjcnjpljngabfaaGreatDoor
