/- Small lemmas beside the print's own words. -/
import Derived.Below
namespace Go.Proofs.YthnchdbkgenjhaaDoorX
theorem isEmpty_ne_ (l : List UInt8) : l.isEmpty = !(l != []) := by cases l <;> simp
theorem ne_isEmpty_ (l : List UInt8) : (!l.isEmpty) = (l != []) := by cases l <;> simp
end Go.Proofs.YthnchdbkgenjhaaDoorX
