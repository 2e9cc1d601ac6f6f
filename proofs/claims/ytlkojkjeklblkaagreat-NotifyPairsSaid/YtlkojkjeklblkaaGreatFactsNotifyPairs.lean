/- The closed facts of the row NotifyPairs, joined. -/
import Derived.Test.YtlkojkjeklblkaaGreatFactsNotifyPairs1
import Derived.Test.YtlkojkjeklblkaaGreatFactsNotifyPairs2
import Derived.Test.YtlkojkjeklblkaaGreatFactsNotifyPairs3
import Derived.Test.YtlkojkjeklblkaaGreatFactsNotifyPairs4
set_option linter.unusedSimpArgs false
set_option linter.unusedVariables false
namespace Go.Proofs.YtlkojkjeklblkaaGreat.notifyPairs
open Go
theorem joined : joinedFacts Tryz.prog 4 Tryz.f4 Rows.notifyPairsSpec Rows.notifyPairsRow = true :=
  joined_of _ _ _ _ _ fact0 factP1 factP2 fact3 fact4 fact5 factP6 fact7 factP8 fact9 fact10 fact11 fact12 fact13 fact14 fact15 fact16 fact17 fact18 fact19 fact20 fact21 fact22 fact23 factP24 factP25 fact26 fact27 fact28 fact29 fact30 fact31
end Go.Proofs.YtlkojkjeklblkaaGreat.notifyPairs
