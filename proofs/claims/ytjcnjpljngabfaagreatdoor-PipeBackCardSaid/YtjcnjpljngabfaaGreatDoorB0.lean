import Derived.Test.YtjcnjpljngabfaaGreatDoorProg
import Derived.WalkKit
import Derived.WalkSpells
import Derived.WalkLawsBesides
import Derived.Handy
import Derived.Lib.Hide
import Derived.Deep.LoopGhost
import Derived.Deep.QuietTactic
import Derived.BigQuiet
import Derived.Deep.DeepCutAuto
import Derived.Deep.CutBlock
import Derived.Test.YtjcnjpljngabfaaGreatDoorWWords
import Derived.Test.YtjcnjpljngabfaaGreatDoorS1
namespace Go.Proofs.YtjcnjpljngabfaaGreatDoor
open Go.RowKit Go.Proofs.YtjcnjpljngabfaaGreatDoorW.PrintWords

theorem wr64 {x : Int} (h0 : -9223372036854775808 ≤ x) (h1 : x ≤ 9223372036854775807) : wrap64 x = x := IntWalk.wrap64_in _ (by omega)
theorem wr64n {a b : Nat} (h : a + b ≤ 9223372036854775807) : wrap64 ((a : Int) + b) = ((a + b : Nat) : Int) := by
  rw [Int.natCast_add]; exact wr64 (by omega) (by omega)
theorem wr64m {a b : Nat} (h : a * b ≤ 9223372036854775807) : wrap64 ((a : Int) * b) = ((a * b : Nat) : Int) := by
  rw [Int.natCast_mul]; rw [← Int.natCast_mul]; exact wr64 (by omega) (by omega)
theorem ar_sub {a b c : Nat} (h : a ≤ c - b) (hb : b ≤ c) : a ≤ c ∧ b + a ≤ c := by omega
theorem le_i64 {a : Nat} (h : a ≤ 253402300799999) : a ≤ 9223372036854775807 := by omega
/-! the world -/
theorem bw_set {w0 w : World} (h : Below w0.heap.size w0 w) {p : Addr} (hp : w0.heap.size ≤ p.block) (u : Value) : Below w0.heap.size w0 (w.setCell p u) := h.setCell hp u
theorem gb_refl (w : World) (r : Option Nat) : w.grownBy w r := ⟨rfl, rfl, rfl, Nat.le_refl _, fun _ _ _ => rfl⟩
theorem gb_trans {a b c : World} {r : Option Nat} (h : a.grownBy b r) (k : b.grownBy c r) : a.grownBy c r :=
  ⟨k.os.trans h.os, k.tape.trans h.tape, k.output.trans h.output, Nat.le_trans h.size k.size, fun i hi hr => (k.block i (Nat.lt_of_lt_of_le hi h.size) hr).trans (h.block i hi hr)⟩
theorem gb_below {a b c : World} {r : Option Nat} (h : a.grownBy b r) (k : Below b.heap.size b c) : a.grownBy c r := gb_trans h (grown_of_below k r)
theorem gb_alloc {w0 w : World} {r : Option Nat} (h : w0.grownBy w r) (o : Obj) : w0.grownBy (w.alloc o) r := gb_below h (below_alloc (Below.refl _ _) o)
theorem gb_drewN {w0 w : World} {r : Option Nat} (h : w0.grownBy w r) (n : Nat) : w0.grownBy (w.drewN n) r := gb_below h (pw_below_drewN (Below.refl _ _) n)
theorem gb_drew {w0 w : World} {r : Option Nat} (h : w0.grownBy w r) : w0.grownBy w.drew r := gb_below h (below_drew (Below.refl _ _))
theorem gb_set {w0 w : World} {g : Nat} (h : w0.grownBy w (some g)) {p : Addr} (hp : p.block = g ∨ w0.heap.size ≤ p.block) (u : Value) : w0.grownBy (w.setCell p u) (some g) :=
  ⟨h.os, h.tape, h.output, by simpa [World.setCell] using h.size, fun k hk hr => by
    rw [Below.heap_setCell w p u k (hp.elim (fun hp e => hr (by rw [e, hp])) (fun hp e => by omega))]
    exact h.block k hk hr⟩
theorem gb_trans_new {a b c : World} {g : Nat} {r : Option Nat} (h : a.grownBy b r) (k : b.grownBy c (some g)) (hg : a.heap.size ≤ g) : a.grownBy c r :=
  ⟨k.os.trans h.os, k.tape.trans h.tape, k.output.trans h.output, Nat.le_trans h.size k.size, fun i hi hr => (k.block i (Nat.lt_of_lt_of_le hi h.size) (by intro e; injection e; omega)).trans (h.block i hi hr)⟩
theorem bw_trans_new {a b c : World} {g : Nat} (h : Below a.heap.size a b) (k : b.grownBy c (some g)) (hg : a.heap.size ≤ g) : Below a.heap.size a c :=
  ⟨k.os.trans h.os, k.tape.trans h.tape, k.output.trans h.output, Nat.le_trans h.size k.size, fun i hi => (k.block i (Nat.lt_of_lt_of_le hi h.size) (by intro e; injection e; omega)).trans (h.block i hi)⟩
theorem bw_trans {a b c : World} (h : Below a.heap.size a b) (k : Below b.heap.size b c) : Below a.heap.size a c := bw_trans_new (g := a.heap.size) h (grown_of_below k _) (Nat.le_refl _)
end Go.Proofs.YtjcnjpljngabfaaGreatDoor
