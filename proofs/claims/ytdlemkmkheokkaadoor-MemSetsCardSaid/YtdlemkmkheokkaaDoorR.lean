/- What the rows share: a world in which the listed variables are laid. -/
import Derived.Test.YtdlemkmkheokkaaDoorRows
import Derived.Test.YtdlemkmkheokkaaDoorMa
import Derived.WalkKit
import Derived.ProofKit
import Derived.OpenShut
import Derived.ChangeSame
import Derived.ChangeVars
import Derived.JoinedOf
import Derived.RowKit
import Derived.RowKitTokens
import Derived.LaidLaws
import Derived.Stop.ErrReads
namespace Go.Proofs.YtdlemkmkheokkaaDoor
open Go.ChangeShapes Go.WideShapes Go.RowKit

theorem own : ownKnob Tryd.prog.godebug = none := by kernel_rfl
noncomputable def low : Nat := (World.holding Tryd.prog default ⟨#[], #[], []⟩).heap.size
/-- the variable g holds an error whose string lies in block low + i -/
def lay (low : Nat) (g i : Nat) (h : Array Obj) : Array Obj := h.modify g fun
  | .cells _ t frozen => .cells #[.iface 188 (.pointer (some ⟨low + i, 0, none⟩))] t frozen
  | o => o
def str (s : ByteArray) : Obj := .cells #[.string s] 209
abbrev sShape : ByteArray := { data := #[110, 111, 116, 32, 97, 115, 32, 105, 116, 32, 104, 97, 115, 32, 116, 111, 32, 98, 101] }
abbrev sRange : ByteArray := { data := #[97, 32, 110, 117, 109, 98, 101, 114, 32, 111, 117, 116, 32, 111, 102, 32, 105, 116, 115, 32, 114, 97, 110, 103, 101] }
abbrev sMany : ByteArray := { data := #[116, 111, 111, 32, 109, 97, 110, 121] }
abbrev sNone : ByteArray := { data := #[116, 104, 101, 114, 101, 32, 105, 115, 32, 110, 111, 110, 101] }
abbrev sFull : ByteArray := { data := #[116, 104, 101, 114, 101, 32, 105, 115, 32, 110, 111, 32, 114, 111, 111, 109] }

abbrev laid5 {H : Type} : List (String × DataW H) := [("turnkey/api.ErrShape", Rows.laid_turnkey_api_ErrShape), ("turnkey/api.ErrRange", Rows.laid_turnkey_api_ErrRange), ("turnkey/api.ErrMany", Rows.laid_turnkey_api_ErrMany), ("turnkey/api.ErrNone", Rows.laid_turnkey_api_ErrNone), ("turnkey/api.ErrFull", Rows.laid_turnkey_api_ErrFull)]

noncomputable def laidWorld (os : Os) : World :=
  let w0 := World.holding Tryd.prog os ⟨#[str sShape, str sRange, str sMany, str sNone, str sFull], #[], []⟩
  { w0 with heap := lay low 3 4 (lay low 1 3 (lay low 0 2 (lay low 2 1 (lay low 4 0 w0.heap)))) }

theorem laidWorld_met (os : Os) (args : Array Value) : laidMet Tryd.prog laid5 ((laidWorld os).forCall (fun _ _ => 0) ⟨#[], args, []⟩).memory :=
  laidMet_of_run (ps := [.cell 4 0, .cell low 0, .cell 2 0, .cell (low + 1) 0, .cell 0 0, .cell (low + 2) 0, .cell 1 0, .cell (low + 3) 0, .cell 3 0, .cell (low + 4) 0]) 8 (by kernel_rfl) (by kernel_rfl) (by kernel_rfl)
end Go.Proofs.YtdlemkmkheokkaaDoor
