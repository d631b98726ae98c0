/- Lemmas on the way to the card of TextBreaks, joined from: FTextBreaks. Conditions: as each lemma says. -/
import Derived.Test.YtogidacejbjljaaGreatDoorRows
import Derived.JoinedCond
import Derived.KernelRfl
/- The closed facts of TextBreaks's row. -/
namespace Go.Proofs.YtogidacejbjljaaGreatDoor
open Go
theorem textBreaks_facts : joinedFacts Tryz.prog 8 Tryz.f8 (OpenSpec.ofChange Rows.textBreaksSpec).bare Rows.textBreaksRow = true := by kernel_rfl
end Go.Proofs.YtogidacejbjljaaGreatDoor
