-- made by prune.py (this workplace) out of a text that print.sh had written: what the row does not reach is taken out
import Derived.Test.YtjhenmegcgnkgaaWInv
import Derived.Test.YtjhenmegcgnkgaaWFootNe
namespace Go.Proofs.YtjhenmegcgnkgaaW.PrintWords
open Go.RowKit
end Go.Proofs.YtjhenmegcgnkgaaW.PrintWords
namespace Go.Proofs.YtjhenmegcgnkgaaW.PrintLast
section
variable {ops : Array Oper} {a : Act} {o og : Oper} {g : Nat} {t : Tmp} {u : Bool}
end
end Go.Proofs.YtjhenmegcgnkgaaW.PrintLast
