/- Lemmas on the way to the card of TextApart, joined from: FTextApart. Conditions: as each lemma says. -/
import Derived.Test.YtogidacejbjljaaGreatDoorRows
import Derived.JoinedCond
import Derived.KernelRfl
/- The closed facts of TextApart's row. -/
namespace Go.Proofs.YtogidacejbjljaaGreatDoor
open Go
theorem textApart_facts : joinedFacts Tryz.prog 11 Tryz.f11 (OpenSpec.ofChange Rows.textApartSpec).bare Rows.textApartRow = true := by kernel_rfl
end Go.Proofs.YtogidacejbjljaaGreatDoor
