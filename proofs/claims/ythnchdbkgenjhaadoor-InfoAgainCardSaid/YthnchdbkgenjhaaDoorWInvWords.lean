-- made by prune.py (this workplace) out of a text that print.sh had written: what the row does not reach is taken out
import Derived.Test.YthnchdbkgenjhaaDoorWInv
import Derived.Test.YthnchdbkgenjhaaDoorWFootNe
namespace Go.Proofs.YthnchdbkgenjhaaDoorW.PrintWords
open Go.RowKit
end Go.Proofs.YthnchdbkgenjhaaDoorW.PrintWords
namespace Go.Proofs.YthnchdbkgenjhaaDoorW.PrintLast
section
variable {ops : Array Oper} {a : Act} {o og : Oper} {g : Nat} {t : Tmp} {u : Bool}
end
end Go.Proofs.YthnchdbkgenjhaaDoorW.PrintLast
