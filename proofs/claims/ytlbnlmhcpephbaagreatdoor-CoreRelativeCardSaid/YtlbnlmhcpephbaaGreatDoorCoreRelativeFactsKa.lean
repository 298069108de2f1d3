/- What the row of the statement CoreRelative asks of the program, item by item. -/
import Derived.Test.YtlbnlmhcpephbaaGreatDoorRows
import Derived.JoinedOf
import Derived.ProofKit
namespace Go.Proofs.YtlbnlmhcpephbaaGreatDoor
set_option maxHeartbeats 8000000 in
theorem coreRelative_facts : joinedFacts Tryz.pinned.checked.prog 3 Tryz.f3 Rows.coreRelativeSpec Rows.coreRelativeRow = true := by
 unfold joinedFacts
 simp only [Bool.and_eq_true]
 repeat' apply And.intro
 all_goals (as_aux_lemma => kernel_rfl)
end Go.Proofs.YtlbnlmhcpephbaaGreatDoor
