/- Lemmas on the way to the card of TextBehind, joined from: CWorld. Conditions: as each lemma says. -/
import Derived.Test.YtogidacejbjljaaGreatDoorRows
import Derived.WalkKit
import Derived.ProofKit
import Derived.Deep.DeepLaidRun
import Derived.Deep.DeepHandedRow
/- A world in which the listed variables hold what the program's text lays: the witness of the text rows. -/
namespace Go.Proofs.YtogidacejbjljaaGreatDoor
open Go.ChangeShapes Go.WideShapes Go.ChangeAt Go.RowKit

theorem textOwn : ownKnob Tryz.prog.godebug = none := by kernel_rfl
theorem textLaidOut : laidOutB Tryz.prog = true := by kernel_rfl

def litV : Lit → Value
 | .bool b => .bool b
 | .int k n => .int k n
 | .string bs => .string ⟨bs.toArray⟩
 | _ => .nilIface
def flatD : Nat → DataW Unit → List Value
 | 0, _ => []
 | _ + 1, .lit l => [litV l]
 | n + 1, .agg l => l.flatMap (flatD n)
 | _, _ => []
def putBlk (h : Array Obj) (g : Nat) (cs : List Value) : Array Obj := h.modify g fun
 | .cells _ t frozen => .cells cs.toArray t frozen
 | o => o
noncomputable def baseHeap (os : Os) : Array Obj := (World.holding Tryz.prog os ⟨#[], #[], []⟩).heap
noncomputable def errAt (os : Os) (i : Nat) : Value := .iface 286 (.pointer (some ⟨(baseHeap os).size + i, 0, none⟩))
noncomputable def laidHeap (os : Os) : Array Obj :=
 ((putBlk (putBlk (putBlk (putBlk (putBlk (putBlk (putBlk (baseHeap os) 1 (flatD 4 Rows.laid_internal_strconv_uint64pow10)) 2 [errAt os 0]) 3 [errAt os 1]) 4 (flatD 4 Rows.laid_math_bits_deBruijn32tab))
   5 (flatD 4 Rows.laid_math_bits_deBruijn64tab)) 6 (flatD 4 Rows.laid_unicode_utf8_first)) 7 (flatD 4 Rows.laid_unicode_utf8_acceptRanges)).push
   (.cells #[.string ⟨#[105, 110, 118, 97, 108, 105, 100, 32, 115, 121, 110, 116, 97, 120]⟩] 288)).push
   (.cells #[.string ⟨#[118, 97, 108, 117, 101, 32, 111, 117, 116, 32, 111, 102, 32, 114, 97, 110, 103, 101]⟩] 288)
noncomputable def laidWorld (os : Os) : World := { World.holding Tryz.prog os ⟨#[], #[], []⟩ with heap := laidHeap os }

theorem laid_met (os : Os) (args : Array Value) : laidMet Tryz.prog Rows.textChecksRow.laid ((laidWorld os).forCall (fun _ _ => 0) ⟨#[], args, []⟩).memory :=
 laidMet_of_run3 8 (by kernel_rfl) (by kernel_rfl) (by kernel_rfl)
end Go.Proofs.YtogidacejbjljaaGreatDoor
