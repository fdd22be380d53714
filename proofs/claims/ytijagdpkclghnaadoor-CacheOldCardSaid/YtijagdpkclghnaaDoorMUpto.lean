import Derived.Test.YtijagdpkclghnaaDoorMSets
namespace Go.Proofs.YtijagdpkclghnaaDoor
open Go Go.RowKit
set_option maxRecDepth 100000

end Go.Proofs.YtijagdpkclghnaaDoor
