/- ServerLoads: whatever the configuration and the state, New and Load take just those that fit, and State tells what a server goes on from. Condition: what the arguments hold is together of bulk at most 1048576. -/
import Derived.Test.YtfiephhdkloaeaaGreatB6
section
namespace Go.Proofs.YtfiephhdkloaeaaGreat
open Go Go.Conc
theorem serverLoads_holds : Rows.ServerLoadsUptoSaid := Ch.proved
end Go.Proofs.YtfiephhdkloaeaaGreat
end
