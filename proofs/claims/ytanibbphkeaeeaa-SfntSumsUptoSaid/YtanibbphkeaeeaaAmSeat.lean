/- The seat's program under the small machine: its tables; the closed parts of its laws. -/
import Derived.Test.YtanibbphkeaeeaaAmEnv
import Derived.Test.YtanibbphkeaeeaaProg
namespace Go.AM
open Go.Proofs
noncomputable def E0 : Env := mkEnv Try.prog
theorem mixed0 : Try.prog.follows .mixedOrders = true := by kernel_rfl
theorem E0_ok : E0.OK := mkEnv_ok mixed0
/-- a closed call's result, where two rows came in: true; and the two rows are as they were -/
def told2 (r : Option (Value × Heap)) : Option (Bool × Nat × Option Blk × Option Blk) :=
  match r with
  | some (.bool b, h) => some (b, h.next, h.blks.get 0, h.blks.get 1)
  | _ => none
set_option maxRecDepth 100000 in
theorem alive10 (B0 B1 : Option Blk) : told2 (run E0 1000 10 [] { next := 2, blks := T.put 2 (T.put 1 .leaf 0 B0) 1 B1 }) = some (true, 39, B0, B1) := by kernel_rfl
end Go.AM
