-- made by prune.py (this workplace) out of a text that print.sh had written: what the row does not reach is taken out
import Derived.Test.YthnchdbkgenjhaaDoorWWords
import Derived.Laws.StructEq
namespace Go.Proofs.YthnchdbkgenjhaaDoorW.PrintWords
open Go.RowKit
section
variable {P : Program} {d : Nat} {xs ys : Array Value} {f : Field} {fs : List Field} {a b : Value} {r s : Bool} {w : World}
end
end Go.Proofs.YthnchdbkgenjhaaDoorW.PrintWords
