/- What the cards share: what the rows' list of package-level variables gives, and a world in which the list is met. No conditions. -/
import Derived.Test.YtjcnjpljngabfaaGreatDoorCards
import Derived.Test.YtjcnjpljngabfaaGreatDoorTie
import Derived.Deep.DeepHandedRow
import Derived.Deep.DeepWitnessRowRef
import Derived.Lib.LaidIn
import Derived.Lib.LaidTab
import Derived.ProofKit
import Derived.SizedLaws
import Derived.Stop.LaidErr
import Derived.MakeChecks
import Derived.Lib.ItoaNum
namespace Go.Proofs.YtjcnjpljngabfaaGreatDoor.cards
open Go.ChangeShapes Go.WideShapes Go.ChangeAt Go.RowKit Go.Lib Go.MakeChecks
theorem own : ownKnob Tryz.prog.godebug = none := by kernel_rfl
theorem gTab : Tryz.prog.globalNamed "internal/strconv.uint64pow10" = some 0 := by kernel_rfl
theorem gTabType : (Tryz.prog.globals[0]?).map (·.type) = some 234 := by kernel_rfl
theorem cells234 : Tryz.prog.cellsOf 234 = 20 := by kernel_rfl
theorem cells235 : Tryz.prog.cellsOf 209 = 1 := by kernel_rfl
def dcell : DataW Unit → Value
  | .lit (.int k n) => .int k n
  | _ => .int .i64 0
def dcells : DataW Unit → Array Value
  | .agg l => (l.map dcell).toArray
  | _ => #[]
def synS : ByteArray := ⟨#[105, 110, 118, 97, 108, 105, 100, 32, 115, 121, 110, 116, 97, 120]⟩
def rngS : ByteArray := ⟨#[118, 97, 108, 117, 101, 32, 111, 117, 116, 32, 111, 102, 32, 114, 97, 110, 103, 101]⟩
def put (h : Array Obj) (g : Nat) (cs : Array Value) : Array Obj := h.modify g fun
  | .cells _ t frozen => .cells cs t frozen
  | o => o
/-- A world for the witness: the settled one with the two errors, the five variables holding what their initialisers lay. -/
noncomputable def laidWorld (os : Os) : World :=
  let N := (World.settled Tryz.prog os).heap.size
  let w0 := World.holding Tryz.prog os ⟨#[.cells #[.string synS] 276, .cells #[.string rngS] 276], #[], []⟩
  let h0 := put w0.heap 0 (dcells Rows.laid_internal_strconv_uint64pow10)
  let h1 := put h0 1 #[.iface 274 (.pointer (some ⟨N, 0, none⟩))]
  let h2 := put h1 2 #[.iface 274 (.pointer (some ⟨N + 1, 0, none⟩))]
  let h4 := put h2 4 (dcells Rows.laid_math_bits_deBruijn32tab)
  let h5 := put h4 5 (dcells Rows.laid_math_bits_deBruijn64tab)
  { w0 with heap := h5 }
noncomputable abbrev N0 : Nat := (World.settled Tryz.prog default).heap.size
theorem laid_in (os : Os) (args : Array Value) : LaidIn Tryz.prog ((laidWorld os).forCall (fun _ _ => 0) ⟨#[], args, []⟩).memory Rows.pipeAgainRow.laid [4, 5, 0, 2, N0 + 1, 1, N0] :=
  LaidIn.of_run [4, 5, 0, 2, N0 + 1, 1, N0] 8 (by kernel_rfl) (by kernel_rfl) (by kernel_rfl) (by kernel_rfl)
theorem laid_met (os : Os) (args : Array Value) : laidMet Tryz.prog Rows.pipeAgainRow.laid ((laidWorld os).forCall (fun _ _ => 0) ⟨#[], args, []⟩).memory := (laid_in os args).met
theorem plainL {W : World} (h : laidMetH Tryz.prog Rows.pipeAgainRow.laid W) : laidMet Tryz.prog Rows.pipeAgainRow.laid W := by
  rw [laidMetH_plain _ _ _ (by kernel_rfl)] at h; exact h
/-- what the list gives: the table of powers -/
theorem table {W : World} (h : laidMetH Tryz.prog Rows.pipeAgainRow.laid W) : Lib.TabIs Tryz.prog W "internal/strconv.uint64pow10" .u64 Lib.pow10Tab :=
  Lib.tabIs_of_head (rest := [("strconv.ErrRange", Rows.laid_strconv_ErrRange), ("strconv.ErrSyntax", Rows.laid_strconv_ErrSyntax)]) gTab gTabType Tryz.underlying234 Tryz.underlying209 cells235 cells234 (laidMet.tail (laidMet.tail (plainL h)))
end Go.Proofs.YtjcnjpljngabfaaGreatDoor.cards
