import Derived.Test.YtjcnjpljngabfaaGreatDoorP7
namespace Go.Proofs.YtjcnjpljngabfaaGreatDoor
open Go.RowKit Go.Proofs.YtjcnjpljngabfaaGreatDoorW.PrintWords
set_option linter.unusedVariables false
/-- a stage that is read -/
def stgK : Kd Stg := Kd.iso (Kd.pair (Kd.int .i64) (Kd.pair (Kd.int .i64) (Kd.slice 9 Kd.string))) (fun x => (x.kind, x.n, x.names))
theorem cell_plain {w : World} {b off : Nat} {sp : _} {v : Value} (h : w.cell? ((⟨b, off, sp⟩ : Addr).add 0) = some v) : sp = none := by
  cases sp with
  | none => rfl
  | some x =>
    exfalso
    simp [Addr.add, World.cell?] at h
    split at h <;> simp_all
/-- one stage's cells in a row -/
def StAt (w : World) (b o : Nat) (x : Stg) : Prop :=
  w.cell? ⟨b, o, none⟩ = some (.int .i64 x.kind) ∧ w.cell? ⟨b, o + 1, none⟩ = some (.int .i64 x.n) ∧ ∃ A c, w.cell? ⟨b, o + 2, none⟩ = some (.slice A x.names.length c) ∧ x.names.length ≤ c ∧ Kd.string.C w A x.names.length x.names
theorem stgs_plain {w : World} {A : Option Addr} {n : Nat} {xs : List Stg} (h : stgK.C w A n xs) (hp : 0 < n) : ∃ b off, A = some ⟨b, off, none⟩ ∧ ∀ j (hj : j < xs.length), StAt w b (off + j * 3) xs[j] := by
  obtain ⟨hl, _, hc⟩ := h
  obtain ⟨ad, rfl, hr⟩ := hc hp
  have hat : ∀ j (hj : j < xs.length), ∃ A c, w.cell? (ad.add (j * 3)) = some (.int .i64 xs[j].kind) ∧ w.cell? (ad.add (j * 3 + 1)) = some (.int .i64 xs[j].n) ∧ w.cell? (ad.add (j * 3 + 2)) = some (.slice A xs[j].names.length c) ∧ xs[j].names.length ≤ c ∧ Kd.string.C w A xs[j].names.length xs[j].names := by
    intro j hj
    obtain ⟨cs, _, hk, hu⟩ := hr j xs[j] (List.getElem?_eq_getElem hj)
    obtain ⟨c0, c1, rfl, h0, c2, c3, rfl, h1, A, c, h2, h3, h4⟩ := hk
    have h0 : c0 = [.int .i64 xs[j].kind] := h0
    have h1 : c2 = [.int .i64 xs[j].n] := h1
    have h2 : c3 = [.slice A xs[j].names.length c] := h2
    subst h0 h1 h2
    exact ⟨A, c, hu 0 _ rfl, hu 1 _ rfl, hu 2 _ rfl, h3, h4⟩
  obtain ⟨b, off, sp⟩ := ad
  have hs : sp = none := by
    obtain ⟨_, _, h0, _⟩ := hat 0 (by omega)
    exact cell_plain (by simpa using h0)
  subst hs
  refine ⟨b, off, rfl, fun j hj => ?_⟩
  obtain ⟨A, c, h0, h1, h2, h3, h4⟩ := hat j hj
  rw [add_at] at h0 h1 h2
  exact ⟨h0, by rw [show off + j * 3 + 1 = off + (j * 3 + 1) by omega]; exact h1, A, c, by rw [show off + j * 3 + 2 = off + (j * 3 + 2) by omega]; exact h2, h3, h4⟩
theorem StAt.below {w w1 : World} {b o : Nat} {x : Stg} (h : StAt w b o x) (hb : Below w.heap.size w w1) : StAt w1 b o x := by
  obtain ⟨h0, h1, A, c, h2, h3, h4⟩ := h
  exact ⟨pw_cell_below hb h0, pw_cell_below hb h1, A, c, pw_cell_below hb h2, h3, Kd.C_below h4 hb⟩
/-- the stages that Parse leaves are read -/
theorem OutPs.reads {w : World} {base : Nat} {v : Value} {ps : List (Stg × SV)} (h : OutPs w base v ps) : ∃ A c, v = .slice A ps.length c ∧ ps.length ≤ c ∧ stgK.C w A ps.length (ps.map Prod.fst) := by
  obtain ⟨A, c, hv, hc, hC⟩ := Kd.R_reads h.row
  rw [List.length_map] at hv hc
  refine ⟨A, c, hv, hc, by simp, by have := hC.2.1; simpa using this, fun hp => ?_⟩
  obtain ⟨ad, hA, hr⟩ := hC.2.2 (by simpa using hp)
  refine ⟨ad, hA, fun j x hj => ?_⟩
  rw [List.getElem?_map] at hj
  cases hpj : ps[j]? with
  | none => rw [hpj] at hj; cases hj
  | some p =>
    rw [hpj] at hj
    have hx : p.1 = x := by simpa using hj
    obtain ⟨cs, h1, hk, hu⟩ := hr j (cellsOf p) (by rw [List.getElem?_map, hpj]; rfl)
    obtain ⟨c0, c1, rfl, h0, c2, c3, rfl, h2, h3⟩ := hk
    have h3 : c3 = [p.2.val] := h3
    obtain ⟨A', c', hv', hc', hC'⟩ := Kd.R_reads (h.names p (List.mem_of_getElem? hpj))
    subst hx
    rw [hv'] at h3
    exact ⟨_, h1, ⟨c0, _, rfl, h0, c2, c3, rfl, h2, A', c', h3, hc', hC'⟩, hu⟩
/-- what Right answers -/
def rightE (l : List Stg) : Int := if 8 < l.length then 85 else if rightF none l then 0 else 240
theorem rightE_zero {l : List Stg} : rightE l = 0 ↔ rightS l = true := by
  unfold rightE rightS
  by_cases h : 8 < l.length
  · rw [if_pos h]; simp; omega
  · rw [if_neg h]
    cases rightF none l with
    | true => simp; omega
    | false => simp
def rightUpto (l : List Stg) (i : Nat) (ah : Option (List BA)) : Prop := rightF none l = rightF ah (l.drop i)
theorem rightUpto_step {l : List Stg} {i : Nat} {ah : Option (List BA)} (h : rightUpto l i ah) (hi : i < l.length) (hm : mayS ah l[i] = true) : rightUpto l (i + 1) (nextH ah l[i]) := by
  unfold rightUpto at h ⊢
  rw [h, List.drop_eq_getElem_cons hi, rightF, hm, Bool.true_and]
theorem rightUpto_bad {l : List Stg} {i : Nat} {ah : Option (List BA)} (h : rightUpto l i ah) (hi : i < l.length) (hm : mayS ah l[i] = false) : rightF none l = false := by
  unfold rightUpto at h
  rw [h, List.drop_eq_getElem_cons hi, rightF, hm]; rfl
theorem rightUpto_end {l : List Stg} {ah : Option (List BA)} (h : rightUpto l l.length ah) : rightF none l = true := by
  unfold rightUpto at h
  rw [h, List.drop_length]; rfl
theorem AhR.below {w w1 : World} {v : Value} {o : Option (List BA)} (h : AhR w v o) (hb : Below w.heap.size w w1) : AhR w1 v o := by
  cases o with
  | none => exact h
  | some l =>
    obtain ⟨ad, c, h1, h2⟩ := h
    exact ⟨ad, c, h1, Kd.C_below h2 hb⟩
set_option maxRecDepth 100000 in
set_option maxHeartbeats 4000000 in
theorem Right_calls (l : List Stg) (A : Option Addr) (c : Nat) (w : World) (hC : stgK.C w A l.length l) (hsz : ∀ x ∈ l, ∀ y ∈ x.names, y.size ≤ 140737488351232) :
    Calls Tryz.prog 21 #[.slice A l.length c] w fun e w' => e = .returned (.int .i64 (rightE l)) ∧ Below w.heap.size w w' := by
  have hmx := Kd.C_max hC
  have HC := Lib.hid hC
  have HSZ := Lib.hid hsz
  clear hC hsz
  go_enter Tryz.func21, Tryz.ntmps21
  by_cases h8 : 8 < l.length
  · have h8' : (8 : Int) < l.length := by omega
    have HE : Hid (rightE l = 85) := Lib.hid (by rw [rightE, if_pos h8])
    go_wp2_with fail
    go_ret
    rw [HE.out]
    exact ⟨rfl, Below.refl _ _⟩
  have h8' : (l.length : Int) ≤ 8 := by omega
  have HE : Hid (rightE l = if rightF none l then 0 else 240) := Lib.hid (by rw [rightE, if_neg h8])
  clear h8
  go_upto_block 0 with fail
  go_cut [] (fun wx => Hid (rightF none l = true) ∧ Below w.heap.size w wx)
  case first =>
    go_wp2_with fail
    go_loopg [3, 11] l.length (fun m va v wr => ∃ (i : Nat) (ah : Option (List BA)), m = l.length - i ∧ i ≤ l.length ∧ v = .int .i64 i ∧ AhR wr va ah ∧ Hid (rightUpto l i ah) ∧ Below w.heap.size w wr)
    case atStart => exact ⟨0, none, rfl, Nat.zero_le _, rfl, rfl, Lib.hid rfl, Below.refl _ _⟩
    case round =>
      obtain ⟨i, ah, hm, hi, rfl, hA, HU, hB⟩ := hrel
      by_cases hlt : i < l.length
      · obtain ⟨b, off, rfl, hst⟩ := stgs_plain HC.out (by omega)
        have hs := (hst i hlt).below hB
        obtain ⟨x, hx⟩ : ∃ x, l[i] = x := ⟨_, rfl⟩
        rw [hx] at hs
        obtain ⟨h0, h1, A3, c3, h2, h3, h4⟩ := hs
        have hxs : ∀ y ∈ x.names, y.size ≤ 140737488351232 := HSZ.out x (by rw [← hx]; exact List.getElem_mem hlt)
        have HXS := Lib.hid hxs
        have HX := Lib.hid hx
        have H4 := Lib.hid h4
        have HA := Lib.hid hA
        have hlt' : (i : Int) < l.length := by omega
        clear hst hx hxs h4 hA
        go_upto_block 1 with fail
        go_cut [3] (fun v wx => AhR wx v (nextH ah x) ∧ Hid (mayS ah x = true) ∧ Below w.heap.size w wx)
        case first =>
          have tx := blk_new wr (.cells #[.int .i64 x.kind, .int .i64 x.n, .slice A3 x.names.length c3] 43 (0, 0))
          have xa := blk_cell tx 0; have xb := blk_cell tx 1; have xc := blk_cell tx 2; have xx := blk_frozen tx 0; have xy := blk_frozen tx 1; have xz := blk_frozen tx 2; have xl := blk_lt tx
          cases hmy : mayS ah x with
          | false =>
            have HMY := Lib.hid hmy
            have HMF := Lib.hid (rightUpto_bad HU.out hlt (by rw [HX.out]; exact hmy))
            clear hmy
            go_wp2_with (go_at_call 61; go_must (refine (may_calls x A3 c3 _ ah _ (Kd.C_alloc H4.out _) h3 HXS.out (HA.out.below (below_alloc (Below.refl _ _) _))).mono ?_; rintro e w5 ⟨rfl, hB5⟩; rw [HMY.out]; have nB := bw_trans (bw_trans hB (below_alloc (Below.refl _ _) _)) hB5; have nX := blk_below tx hB5; clear xa xb xc xx xy xz xl; have xa := blk_cell nX 0; have xb := blk_cell nX 1; have xc := blk_cell nX 2; have xx := blk_frozen nX 0; have xy := blk_frozen nX 1; have xz := blk_frozen nX 2; have xl := blk_lt nX))
            go_ret
            rw [HE.out, HMF.out]
            exact ⟨rfl, nB⟩
          | true =>
            have HMY := Lib.hid hmy
            have hmay := hmy
            rw [mayS, Bool.and_eq_true] at hmay
            obtain ⟨k, hk, k1, k2, _, _, b3, b4, _⟩ := goodS_spec hmay.1
            have hnl : x.names.length ≤ 64 := by
              have : ∀ j : Fin 14, (bnd (j.val : Int)).2.2.2 ≤ 64 := by decide
              have := this ⟨k, by omega⟩
              simp only at this; omega
            have h12n : x.kind = 12 → 0 < x.names.length := by
              intro e
              have hk12 : k = 12 := by omega
              subst hk12
              have : (bnd ((12 : Nat) : Int)).2.2.1 = 1 := by decide
              omega
            have HH := Lib.hid (head_names hmay.1).2
            have H12 := Lib.hid h12n
            have HK := Lib.hid hk
            have HK2 := Lib.hid k2
            have HNL := Lib.hid hnl
            obtain ⟨tb, htb⟩ : ∃ b, (decide (x.kind ≤ 8) || decide (x.kind = 12)) = b := ⟨_, rfl⟩
            have HTB := Lib.hid htb
            clear hmy hmay hk k1 k2 b3 b4 hnl h12n htb
            cases tb with
            | true =>
              have ht : tableB x.kind = true := HTB.out
              have HT := Lib.hid ht
              clear ht
              go_wp2_with (first | (go_at_call 61; go_must (refine (may_calls x A3 c3 _ ah _ (Kd.C_alloc H4.out _) h3 HXS.out (HA.out.below (below_alloc (Below.refl _ _) _))).mono ?_; rintro e w5 ⟨rfl, hB5⟩; rw [HMY.out]; have nB := bw_trans (bw_trans hB (below_alloc (Below.refl _ _) _)) hB5; have nX := blk_below tx hB5; clear xa xb xc xx xy xz xl; have xa := blk_cell nX 0; have xb := blk_cell nX 1; have xc := blk_cell nX 2; have xx := blk_frozen nX 0; have xy := blk_frozen nX 1; have xz := blk_frozen nX 2; have xl := blk_lt nX)) | (go_at_call 49; go_must (refine (table_calls _ _).mono ?_; rintro e wT ⟨rfl, rfl⟩; rw [HTB.out])) | (go_at_call 50; go_must (refine (head_calls x k HK.out HK2.out A3 c3 _ (Kd.C_below (Kd.C_alloc H4.out _) hB5) HNL.out).mono ?_; rintro e w7 ⟨hB7, v7, rfl, h12, hno⟩)))
              go_meet
              refine ⟨?_, HMY, bw_trans nB hB7⟩
              rw [nextH, HT.out]
              by_cases e12 : x.kind = 12
              · have hp := H12.out e12
                obtain ⟨b3, o3, hA3, _⟩ := strs_plain H4.out hp
                rw [h12 e12, show headS x = x.names by rw [headS, if_neg (by omega), if_neg (by omega), if_pos e12]]
                exact ⟨_, c3, by rw [hA3], by rw [← hA3]; exact Kd.C_below (Kd.C_below (Kd.C_alloc H4.out _) hB5) hB7⟩
              · obtain ⟨b7, c7, hv7, _⟩ := Kd.R_form (hno e12) (HH.out HT.out)
                have hr := hno e12
                rw [hv7] at hr
                exact ⟨_, c7, hv7, (Kd.R_reads' hr).2.2⟩
            | false =>
              have ht : tableB x.kind = false := HTB.out
              have HT := Lib.hid ht
              clear ht
              go_wp2_with (first | (go_at_call 61; go_must (refine (may_calls x A3 c3 _ ah _ (Kd.C_alloc H4.out _) h3 HXS.out (HA.out.below (below_alloc (Below.refl _ _) _))).mono ?_; rintro e w5 ⟨rfl, hB5⟩; rw [HMY.out]; have nB := bw_trans (bw_trans hB (below_alloc (Below.refl _ _) _)) hB5; have nX := blk_below tx hB5; clear xa xb xc xx xy xz xl; have xa := blk_cell nX 0; have xb := blk_cell nX 1; have xc := blk_cell nX 2; have xx := blk_frozen nX 0; have xy := blk_frozen nX 1; have xz := blk_frozen nX 2; have xl := blk_lt nX)) | (go_at_call 49; go_must (refine (table_calls _ _).mono ?_; rintro e wT ⟨rfl, rfl⟩; rw [HTB.out])))
              go_meet
              exact ⟨by rw [nextH, HT.out]; exact (HA.out.below (below_alloc (Below.refl _ _) _)).below hB5, HMY, nB⟩
        case rest =>
          obtain ⟨nA, HMY, nB2⟩ := hcut
          have hs2 := rightUpto_step HU.out hlt (by rw [HX.out]; exact HMY.out)
          rw [HX.out] at hs2
          have HU2 := Lib.hid hs2
          clear hs2
          go_wp2_with fail
          go_roundg (l.length - (i + 1))
          case rel => exact ⟨i + 1, nextH ah x, rfl, by omega, by simp, nA, HU2, nB2⟩
          case measure => omega
      · have e : i = l.length := by omega
        have HF := Lib.hid (rightUpto_end (e ▸ HU.out))
        have hlt' : (l.length : Int) ≤ i := by omega
        go_wp2_with fail
        go_meet
        exact ⟨HF, hB⟩
  case rest =>
    obtain ⟨HF, hB⟩ := hcut
    go_wp2_with fail
    go_ret
    rw [HE.out, HF.out]
    exact ⟨rfl, hB⟩
end Go.Proofs.YtjcnjpljngabfaaGreatDoor
