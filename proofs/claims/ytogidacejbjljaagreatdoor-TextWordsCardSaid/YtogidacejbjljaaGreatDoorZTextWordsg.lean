/- Lemmas on the way to the card of TextWords, joined from: FTextWords. Conditions: as each lemma says. -/
import Derived.Test.YtogidacejbjljaaGreatDoorRows
import Derived.JoinedCond
import Derived.KernelRfl
/- The closed facts of TextWords's row. -/
namespace Go.Proofs.YtogidacejbjljaaGreatDoor
open Go
theorem textWords_facts : joinedFacts Tryz.prog 9 Tryz.f9 (OpenSpec.ofChange Rows.textWordsSpec).bare Rows.textWordsRow = true := by kernel_rfl
end Go.Proofs.YtogidacejbjljaaGreatDoor
