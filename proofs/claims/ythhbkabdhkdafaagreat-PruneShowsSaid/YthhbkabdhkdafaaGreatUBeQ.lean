/- Part of a proof of pruneShows_holds. -/
import Derived.Test.YthhbkabdhkdafaaGreatUAqQ
set_option linter.unusedSimpArgs false
set_option linter.unusedVariables false
namespace Go.Proofs.YthhbkabdhkdafaaGreat
end Go.Proofs.YthhbkabdhkdafaaGreat
