/- What the row of the statement CoreExact asks of the program, item by item. -/
import Derived.Test.YtlbnlmhcpephbaaGreatDoorRows
import Derived.JoinedOf
import Derived.ProofKit
namespace Go.Proofs.YtlbnlmhcpephbaaGreatDoor
set_option maxHeartbeats 8000000 in
theorem coreExact_facts : joinedFacts Tryz.pinned.checked.prog 6 Tryz.f6 Rows.coreExactSpec Rows.coreExactRow = true := by
 unfold joinedFacts
 simp only [Bool.and_eq_true]
 repeat' apply And.intro
 all_goals (as_aux_lemma => kernel_rfl)
end Go.Proofs.YtlbnlmhcpephbaaGreatDoor
