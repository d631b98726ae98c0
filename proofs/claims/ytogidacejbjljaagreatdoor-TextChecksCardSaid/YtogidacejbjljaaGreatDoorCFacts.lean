import Derived.Test.YtogidacejbjljaaGreatDoorRows
import Derived.JoinedCond
import Derived.KernelRfl
namespace Go.Proofs.YtogidacejbjljaaGreatDoor
open Go
theorem textChecks_facts : joinedFacts Tryz.prog 7 Tryz.f7 (OpenSpec.ofChange Rows.textChecksSpec).bare Rows.textChecksRow = true := by kernel_rfl
end Go.Proofs.YtogidacejbjljaaGreatDoor
