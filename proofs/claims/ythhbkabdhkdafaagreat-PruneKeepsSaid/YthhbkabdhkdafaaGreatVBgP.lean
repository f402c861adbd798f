/- Part of a proof of pruneKeeps_holds. -/
import Derived.Test.YthhbkabdhkdafaaGreatVAsP
set_option linter.unusedSimpArgs false
set_option linter.unusedVariables false
namespace Go.Proofs.YthhbkabdhkdafaaGreat
end Go.Proofs.YthhbkabdhkdafaaGreat
