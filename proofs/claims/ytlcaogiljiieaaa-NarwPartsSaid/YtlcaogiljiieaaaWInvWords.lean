-- made by prune.py (this workplace) out of a text that print.sh had written: what the row does not reach is taken out
import Derived.Test.YtlcaogiljiieaaaWInv
import Derived.Test.YtlcaogiljiieaaaWFootNe
namespace Go.Proofs.YtlcaogiljiieaaaW.PrintWords
open Go.RowKit
end Go.Proofs.YtlcaogiljiieaaaW.PrintWords
namespace Go.Proofs.YtlcaogiljiieaaaW.PrintLast
section
variable {ops : Array Oper} {a : Act} {o og : Oper} {g : Nat} {t : Tmp} {u : Bool}
end
end Go.Proofs.YtlcaogiljiieaaaW.PrintLast
