/- the document's order: Named, ahead, bottoms, walked. -/
import Derived.Test.YtiibjgnmdieicaaGreatVd
import Derived.Test.YtiibjgnmdieicaaGreatUc
namespace Go.Proofs.YtiibjgnmdieicaaGreat.Hist
open Go.RowKit Go.Proofs.YtiibjgnmdieicaaGreatW.PrintWords Go.Sort
end Go.Proofs.YtiibjgnmdieicaaGreat.Hist
/- the document's order: bottoms, walked. -/
namespace Go.Proofs.YtiibjgnmdieicaaGreat.Hist
open Go.RowKit Go.Proofs.YtiibjgnmdieicaaGreatW.PrintWords Go.Sort
end Go.Proofs.YtiibjgnmdieicaaGreat.Hist
