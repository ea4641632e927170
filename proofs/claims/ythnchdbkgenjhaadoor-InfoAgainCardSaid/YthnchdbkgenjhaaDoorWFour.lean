-- made by prune.py (this workplace) out of a text that print.sh had written: what the row does not reach is taken out
import Derived.Test.YthnchdbkgenjhaaDoorWTab
/-! ### 56. Four, five, six operations that may come up next, in any order -/
namespace Go.Proofs.YthnchdbkgenjhaaDoorW.PrintLast
section
variable {P : Program} {ops : Array Oper} {Q : Exit → Act → World → Prop} {md : Region.Mode} {S : World → Prop} {ds : List Nat} {T : Bool × List (List Nat × List Nat)}
end
end Go.Proofs.YthnchdbkgenjhaaDoorW.PrintLast
