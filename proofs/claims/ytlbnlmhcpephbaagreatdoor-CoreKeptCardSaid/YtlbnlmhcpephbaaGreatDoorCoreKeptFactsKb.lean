/- What the row of the statement CoreKept asks of the program, item by item. -/
import Derived.Test.YtlbnlmhcpephbaaGreatDoorRows
import Derived.JoinedOf
import Derived.ProofKit
namespace Go.Proofs.YtlbnlmhcpephbaaGreatDoor
set_option maxHeartbeats 8000000 in
theorem coreKept_facts : joinedFacts Tryz.pinned.checked.prog 4 Tryz.f4 Rows.coreKeptSpec Rows.coreKeptRow = true := by
 unfold joinedFacts
 simp only [Bool.and_eq_true]
 repeat' apply And.intro
 all_goals (as_aux_lemma => kernel_rfl)
end Go.Proofs.YtlbnlmhcpephbaaGreatDoor
