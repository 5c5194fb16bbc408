
/- The walks of the queries of runs: search, Has, Next, Measure, Rank, Nth, and Equal. -/
import Derived.Test.YtahpcepnagpbdaaRunsA
import Derived.Test.YtahpcepnagpbdaaRunsT
namespace Go.Proofs.Ytahpcepnagpbdaa
open Go.RowKit

end Go.Proofs.Ytahpcepnagpbdaa
