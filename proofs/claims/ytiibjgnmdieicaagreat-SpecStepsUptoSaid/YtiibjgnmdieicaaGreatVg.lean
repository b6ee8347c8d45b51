/- the document's order and the program's: the words. -/
import Derived.Test.YtiibjgnmdieicaaGreatVa
import Derived.Test.YtiibjgnmdieicaaGreatUc
import Derived.Test.YtiibjgnmdieicaaGreatVe
import Derived.Test.YtiibjgnmdieicaaGreatVf
import Derived.Deep.Upon
namespace Go.Proofs.YtiibjgnmdieicaaGreat.Hist
open Go.RowKit Go.Proofs.YtiibjgnmdieicaaGreatW.PrintWords Go.Sort
section
variable {l : List Evt}
end
end Go.Proofs.YtiibjgnmdieicaaGreat.Hist
/- the document's order is the program's: the plain law. -/
namespace Go.Proofs.YtiibjgnmdieicaaGreat.Hist
open Go.RowKit Go.Proofs.YtiibjgnmdieicaaGreatW.PrintWords Go.Sort
section
variable {E : Nat → Nat → Prop} {W : List Nat}
end
section
variable {l : List Evt}
end
end Go.Proofs.YtiibjgnmdieicaaGreat.Hist
/- the document's order: Order, walked. -/
namespace Go.Proofs.YtiibjgnmdieicaaGreat.Hist
open Go.RowKit Go.Proofs.YtiibjgnmdieicaaGreatW.PrintWords Go.Sort
end Go.Proofs.YtiibjgnmdieicaaGreat.Hist
