-- made by prune.py (this workplace) out of a text that print.sh had written: what the row does not reach is taken out
import Derived.Test.YthnchdbkgenjhaaDoorWN
/-! ### 52. A row that stays read whatever happens to a block (a set of blocks) doesn't lie there -/
namespace Go.Proofs.YthnchdbkgenjhaaDoorW.PrintWords
open Go.RowKit
namespace Kd
section
variable {α : Type} {d : Kd α} {W : World} {g n : Nat} {S ok : Nat → Prop} {A : Option Addr} {ad : Addr} {xs : List α}
end
end Kd
end Go.Proofs.YthnchdbkgenjhaaDoorW.PrintWords
