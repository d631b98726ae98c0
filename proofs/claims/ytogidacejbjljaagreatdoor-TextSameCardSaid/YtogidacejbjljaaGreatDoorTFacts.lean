import Derived.Test.YtogidacejbjljaaGreatDoorRows
import Derived.JoinedCond
import Derived.KernelRfl
namespace Go.Proofs.YtogidacejbjljaaGreatDoor
open Go
theorem textSame_facts : joinedFacts Tryz.prog 5 Tryz.f5 (OpenSpec.ofChange Rows.textSameSpec).bare Rows.textSameRow = true := by kernel_rfl
end Go.Proofs.YtogidacejbjljaaGreatDoor
