/- Lemmas on the way to the card of TextBehind, joined from: FTextBehind. Conditions: as each lemma says. -/
import Derived.Test.YtogidacejbjljaaGreatDoorRows
import Derived.JoinedCond
import Derived.KernelRfl
/- The closed facts of TextBehind's row. -/
namespace Go.Proofs.YtogidacejbjljaaGreatDoor
open Go
theorem textBehind_facts : joinedFacts Tryz.prog 12 Tryz.f12 (OpenSpec.ofChange Rows.textBehindSpec).bare Rows.textBehindRow = true := by kernel_rfl
end Go.Proofs.YtogidacejbjljaaGreatDoor
