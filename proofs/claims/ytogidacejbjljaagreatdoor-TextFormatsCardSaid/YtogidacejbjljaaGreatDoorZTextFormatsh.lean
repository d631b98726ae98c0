/- Lemmas on the way to the card of TextFormats, joined from: FTextFormats. Conditions: as each lemma says. -/
import Derived.Test.YtogidacejbjljaaGreatDoorRows
import Derived.JoinedCond
import Derived.KernelRfl
/- The closed facts of TextFormats's row. -/
namespace Go.Proofs.YtogidacejbjljaaGreatDoor
open Go
theorem textFormats_facts : joinedFacts Tryz.prog 6 Tryz.f6 (OpenSpec.ofChange Rows.textFormatsSpec).bare Rows.textFormatsRow = true := by kernel_rfl
end Go.Proofs.YtogidacejbjljaaGreatDoor
