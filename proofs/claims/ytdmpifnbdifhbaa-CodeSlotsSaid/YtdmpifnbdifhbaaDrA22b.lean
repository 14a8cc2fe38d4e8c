/- A part of the proof of CodeSlots: contracts of functions of the program, at data level. -/
import Derived.Test.YtdmpifnbdifhbaaDrT22
namespace Go.Lift.T22
open Go.Proofs
def keep22 : FuncId → Bool
  | 12 => true
  | 14 => true
  | 17 => true
  | _ => false
end Go.Lift.T22
namespace Go.Lift.T22
open Go.Proofs
theorem alive22 : DCalls Try.prog 5 [] 0 [] fun v h => v = cb true ∧ h = [] :=
  runC raw0 hraw0 keep22 20000 40 (by kernel_rfl)
end Go.Lift.T22
