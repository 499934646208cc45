import Derived.Test.YticaeflnpgbngaaDoorSr3
import Derived.Test.YticaeflnpgbngaaDoorSg5
namespace Go.Proofs.YticaeflnpgbngaaDoor
open Go.RowKit
end Go.Proofs.YticaeflnpgbngaaDoor
