/- Lemmas on the way to the card of TextBehind, joined from: DenTextA. Conditions: as each lemma says. -/
import Derived.Test.YtogidacejbjljaaGreatDoorZTextBehinde
/- awake(), computed: in every world it returns true, and leaves what was there. -/
set_option linter.unusedVariables false
set_option linter.unusedSimpArgs false
namespace Go.Proofs.YtogidacejbjljaaGreatDoor
open Go Go.Den Go.RowKit

def noSt : St := ⟨.nil, 0⟩
noncomputable def awakeRun : Bool := match runFn Tryz.prog denC 2000 13 #[] noSt with | some (.ret (.bool b), _) => b | _ => false
theorem awakeRun_true : awakeRun = true := by kernel_rfl

theorem noSt_rel (w : World) : Rel ⟨w, fun _ => none⟩ (fun _ => none) noSt w := by
 have hn : ∀ id, noSt.heap.get id = none := fun id => Trie.get_nil id
 refine ⟨Below.refl _ _, fun k x h => absurd h (by simp), fun id o h => ?_, fun i j x y bn c d h => ?_, fun id _ => ⟨hn id, rfl⟩⟩
 ·rw [hn] at h; exact absurd h (by simp)
 ·rw [hn] at h; exact absurd h (by simp)

theorem awake_calls (w : World) : Calls Tryz.prog 13 #[] w fun e w' => e = .returned (.bool true) ∧ Below w.heap.size w w' := by
 have h := awakeRun_true
 unfold awakeRun at h
 split at h
 ·rename_i b s hb
  subst h
  refine (runFn_ok (by kernel_rfl) denC_ok 2000 13 #[] noSt _ s hb ⟨w, fun _ => none⟩ w (fun _ => none) #[] (noSt_rel w) .nil).mono ?_
  rintro e w' ⟨q, _, hR, hc⟩
  refine ⟨?_, hR.below⟩
  cases hc with
  | ret _ v' hv => cases hv; rfl
 ·exact absurd h (by simp)

#print axioms awake_calls
end Go.Proofs.YtogidacejbjljaaGreatDoor
