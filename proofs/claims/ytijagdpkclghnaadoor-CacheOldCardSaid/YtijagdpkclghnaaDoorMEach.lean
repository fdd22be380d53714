import Derived.Test.YtijagdpkclghnaaDoorProg
import Derived.Test.YtijagdpkclghnaaDoorExt
import Derived.Test.YtijagdpkclghnaaDoorSet
import Derived.Handy
namespace Go.Proofs.YtijagdpkclghnaaDoor
open Go Go.RowKit
set_option maxRecDepth 100000
end Go.Proofs.YtijagdpkclghnaaDoor
