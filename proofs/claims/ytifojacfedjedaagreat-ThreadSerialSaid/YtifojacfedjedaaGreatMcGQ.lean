/- A Commit's and an Abort's forms, beside the next tally. No condition. -/
import Derived.Test.YtifojacfedjedaaGreatMcFQ
import Derived.Test.YtifojacfedjedaaGreatAnySQ
