/- Raw numbers as an argument: what the reading of the slice gives. No conditions. -/
import Derived.Test.YtjcnjpljngabfaaGreatDoorC1
import Derived.Test.YtjcnjpljngabfaaGreatDoorD3
import Derived.Deep.Slices
import Derived.Deep.Fields
import Derived.ChangeSame
namespace Go.Proofs.YtjcnjpljngabfaaGreatDoor.cards
open Go.ChangeShapes Go.WideShapes Go.ChangeAt Go.RowKit Go.Lib Go.Proofs.YtjcnjpljngabfaaGreatDoorW.PrintWords
theorem cellsRaw : Tryz.prog.cellsOf 82 = 4 := by kernel_rfl
theorem cellsI : Tryz.prog.cellsOf 3 = 1 := by kernel_rfl
theorem i64_of {n : Int} (h : (Lit.int .i64 n).wf = true) : I64 n := by
  have a1 : IntKind.i64.min = -9223372036854775808 := rfl
  have a2 : IntKind.i64.max = 9223372036854775807 := rfl
  simp only [Lit.wf, Bool.and_eq_true, decide_eq_true_eq] at h
  rw [a1, a2] at h
  exact h
theorem one_at {cs : List Value} {j : Nat} {v : Value} (h : (cs.drop j).take 1 = [v]) : cs[j]? = some v := by
  have := congrArg (fun l => l[0]?) h
  simpa [List.getElem?_take, List.getElem?_drop] using this
set_option maxRecDepth 100000 in
theorem raw_cells {H : Type} {enc : TypeId × Value → H} {W : World} {n : Nat} {cs : List Value} {x : DataW H × List MemPlace} (h : DataW.trod enc Tryz.prog W 0 (fun _ => true) true n 82 cs = some x) :
    ∃ r : RawS, cs = [.int .i64 r.kind, .int .i64 r.n, .int .i64 r.a, .int .i64 r.b] ∧ RawIn r := by
  obtain ⟨xs, n', _, _, hcl, hxl, hf⟩ := DataW.trod_struct Tryz.underlying82 h
  rw [cellsRaw] at hcl
  have hxl : xs.length = 4 := hxl
  have f0 := hf 0 _ rfl
  have f1 := hf 1 _ rfl
  have f2 := hf 2 _ rfl
  have f3 := hf 3 _ rfl
  rw [List.getElem?_eq_getElem (by omega)] at f0 f1 f2 f3
  obtain ⟨n0, h0, _, w0⟩ := DataW.trod_int Tryz.underlying3 f0
  obtain ⟨n1, h1, _, w1⟩ := DataW.trod_int Tryz.underlying3 f1
  obtain ⟨n2, h2, _, w2⟩ := DataW.trod_int Tryz.underlying3 f2
  obtain ⟨n3, h3, _, w3⟩ := DataW.trod_int Tryz.underlying3 f3
  have g0 := one_at h0
  have g1 := one_at h1
  have g2 := one_at h2
  have g3 := one_at h3
  refine ⟨⟨n0, n1, n2, n3⟩, ?_, i64_of w0, i64_of w1, i64_of w2, i64_of w3⟩
  apply List.ext_getElem?
  intro i
  rcases i with _ | _ | _ | _ | i
  · exact g0
  · exact g1
  · exact g2
  · exact g3
  · rw [List.getElem?_eq_none (by omega), List.getElem?_eq_none (by simp)]
set_option maxRecDepth 100000 in
theorem open_raws {H : Type} {enc : TypeId × Value → H} {W : World} {v : Value} {d : DataW H} {ps : List MemPlace} {base : Nat} (hval : Value.okWide Tryz.prog W .any base 70 v) (h : DataW.Trod enc Tryz.prog W 0 (fun _ => true) true 70 v d ps) :
    ∃ (A : Option Addr) (cap : Nat) (raw : List RawS), v = .slice A raw.length cap ∧ rawK.C W A raw.length raw ∧ ∀ r ∈ raw, RawIn r := by
  obtain ⟨a0, l0, c0, rfl⟩ := okWide_slice Tryz.underlying70 hval
  obtain ⟨fuel, hf⟩ := h
  rcases Go.Deep.open_slice Tryz.underlying70 hf with ⟨hcs, _⟩ | ⟨a, len, cap, m, n, D, Pl, hcs, _, hl, hm, hmm, _, hi⟩
  · simp [Value.cells] at hcs
    obtain ⟨rfl, rfl, rfl⟩ := hcs
    exact ⟨none, 0, [], rfl, Kd.C_nil _ _, fun r hr => by cases hr⟩
  · simp [Value.cells] at hcs
    obtain ⟨rfl, rfl, rfl⟩ := hcs
    have hm' : m = c0 := by simpa using hmm
    have hev : ∀ i, i < l0 → ∃ r : RawS, (∀ j u, ([.int .i64 r.kind, .int .i64 r.n, .int .i64 r.a, .int .i64 r.b] : List Value)[j]? = some u → W.cell? (a.add (i * 4 + j)) = some u) ∧ RawIn r := by
      intro i hil
      obtain ⟨cs', hc, ht⟩ := hi i (by omega)
      rw [cellsRaw] at hc
      obtain ⟨r, hr, hin⟩ := raw_cells ht
      obtain ⟨_, hcl, hat⟩ := World.cells?_some hc
      refine ⟨r, fun j u hu => ?_, hin⟩
      have hj : j < 4 := (List.getElem?_eq_some_iff.1 hu).1
      rw [← Go.Deep.add_add, hat j hj, hr]
      exact hu
    haveI : Inhabited RawS := ⟨⟨0, 0, 0, 0⟩⟩
    obtain ⟨f, hff⟩ := Go.Deep.choose_lt hev
    refine ⟨some a, c0, (List.range l0).map f, by simp, ⟨rfl, ?_, fun _ => ⟨a, rfl, fun j r hj => ?_⟩⟩, fun r hr => ?_⟩
    · have : maxLen = 9223372036854775807 := rfl
      simp
      omega
    · rw [List.getElem?_map] at hj
      cases hjr : (List.range l0)[j]? with
      | none => rw [hjr] at hj; cases hj
      | some k =>
        rw [hjr] at hj
        have hk := List.getElem?_eq_some_iff.1 hjr
        obtain ⟨hk1, hk2⟩ := hk
        have hjl : j < l0 := by simpa using hk1
        have hkj : k = j := by rw [← hk2]; simp
        subst hkj
        have hr : f k = r := by simpa using hj
        subst hr
        exact ⟨[.int .i64 (f k).kind, .int .i64 (f k).n, .int .i64 (f k).a, .int .i64 (f k).b], rfl, ⟨[_], [_, _, _], rfl, rfl, [_], [_, _], rfl, rfl, [_], [_], rfl, rfl, rfl⟩, (hff k hjl).1⟩
    · obtain ⟨k, hk, rfl⟩ := List.mem_map.1 hr
      exact (hff k (by simpa using hk)).2
end Go.Proofs.YtjcnjpljngabfaaGreatDoor.cards
