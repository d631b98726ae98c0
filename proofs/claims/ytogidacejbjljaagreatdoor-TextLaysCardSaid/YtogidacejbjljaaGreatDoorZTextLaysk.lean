/- Lemmas on the way to the card of TextLays, joined from: FTextLays. Conditions: as each lemma says. -/
import Derived.Test.YtogidacejbjljaaGreatDoorRows
import Derived.JoinedCond
import Derived.KernelRfl
/- The closed facts of TextLays's row. -/
namespace Go.Proofs.YtogidacejbjljaaGreatDoor
open Go
theorem textLays_facts : joinedFacts Tryz.prog 10 Tryz.f10 (OpenSpec.ofChange Rows.textLaysSpec).bare Rows.textLaysRow = true := by kernel_rfl
end Go.Proofs.YtogidacejbjljaaGreatDoor
