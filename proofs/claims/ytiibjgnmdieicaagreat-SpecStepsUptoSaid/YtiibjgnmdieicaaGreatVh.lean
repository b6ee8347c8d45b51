/- SpecOrders: the walk. -/
import Derived.Test.YtiibjgnmdieicaaGreatVg
namespace Go.Proofs.YtiibjgnmdieicaaGreat.Hist
open Go.RowKit Go.Proofs.YtiibjgnmdieicaaGreatW.PrintWords Go.Sort
end Go.Proofs.YtiibjgnmdieicaaGreat.Hist
