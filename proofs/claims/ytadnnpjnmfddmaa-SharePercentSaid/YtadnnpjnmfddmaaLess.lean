/- Contract of package wide's Less. -/
import Derived.Test.YtadnnpjnmfddmaaProg
import Derived.Test.YtadnnpjnmfddmaaBase
import Derived.Test.YtadnnpjnmfddmaaTimes
import Derived.Test.YtadnnpjnmfddmaaCompare
namespace Go.Proofs.Ytadnnpjnmfddmaa
open Go.RowKit

/-- Whether one fraction is less than another one. -/
def lessF (an ad bn bd : Int) : Bool := if ad = 0 then false else if bd = 0 then true else decide (an * bd < bn * ad)

end Go.Proofs.Ytadnnpjnmfddmaa

