/-
  No cell of these rows narrows 'for every input' (looked for: loops, veiled, ifaces, maps, wideKeys, modest, calm, conditions, laid).
  DERIVED. THE GIVEN ROWS OF THIS SEAT. 5 by the template 'for every input the law returns true; each argument reads behind the call as it read before'; 0 by the template 'total and deterministic' (their statements: YtjhenmegcgnkgaaTotals.lean).
  GIVEN WITH THE SEED: the statements are not yours to turn. If you find one false, say at which input.
  Laid BY PROGRAM, IN A SANDBOX (cutbox-rows.mjs): the forced cells as the released guide's own fill.sh prints them over the translation 8ab00b1e05d3eabc… (all of the seat's roots in one cut). By AI agents, Wed Nov 11 2026. No macro, syntax, notation, axiom, sorry.
-/
import Derived.Test.YtjhenmegcgnkgaaChecked
import GoSem.Claim
import GoSem.ClaimJoined
import GoSem.ClaimMapViews
import Derived.JoinedTies
import Derived.KernelRfl
namespace Go.Proofs.Ytjhenmegcgnkgaa
/- THE CELL 'sum', in the pinned program and in every row, IS THE sha256 OF THE DUMP (.gsa) THAT YtjhenmegcgnkgaaProg.lean LOADS. Nothing in Lean hashes anything: it is a label: what it is worth is what the hold of that sum in a sandbox is worth. -/
noncomputable def Try.pinned : Pinned := { name := "ytjhenmegcgnkgaa", sum := "8ab00b1e05d3eabcb923471ffb357a75fa6c0e062069fe00deb8c318e70791be", checked := Try.checked }
namespace Rows
def none {H : Type} : Left H := { results := [], args := [] }

/-- 'chandlerylaw08.NodeLays': WHATEVER THE INPUT: true; the input reads as it did. -/
def nodeLaysSpec : ChangeSpec := { name := "nodeLays", fn := fun _ => fun
  | [d1, d2] => { results := [.lit (.bool true)], args := [d1, d2] }
  | _ => none }
def nodeLaysRow : OpenClaim := { program := "ytjhenmegcgnkgaa", sum := "8ab00b1e05d3eabcb923471ffb357a75fa6c0e062069fe00deb8c318e70791be", func := "chandlery/chandlerylaw08.NodeLays", spec := "nodeLays", unfollowed := true, recurses := true, apart := false }
def NodeLaysSaid : Prop := nodeLaysRow.holds Try.pinned (OpenSpec.ofChange nodeLaysSpec)

/-- ITS FALSE NEIGHBOUR: 'it returns false'. Refute it at one input. -/
def nodeLaysWrong : ChangeSpec := { name := "nodeLays", fn := fun _ => fun
  | [d1, d2] => { results := [.lit (.bool false)], args := [d1, d2] }
  | _ => none }
def NodeLaysWrongFalsely : Prop := nodeLaysRow.holds Try.pinned (OpenSpec.ofChange nodeLaysWrong)

/-- 'chandlerylaw08.NodePlaces': WHATEVER THE INPUT: true; the input reads as it did. -/
def nodePlacesSpec : ChangeSpec := { name := "nodePlaces", fn := fun _ => fun
  | [d1, d2] => { results := [.lit (.bool true)], args := [d1, d2] }
  | _ => none }
def nodePlacesRow : OpenClaim := { program := "ytjhenmegcgnkgaa", sum := "8ab00b1e05d3eabcb923471ffb357a75fa6c0e062069fe00deb8c318e70791be", func := "chandlery/chandlerylaw08.NodePlaces", spec := "nodePlaces", unfollowed := true, recurses := true, apart := false }
def NodePlacesSaid : Prop := nodePlacesRow.holds Try.pinned (OpenSpec.ofChange nodePlacesSpec)

/-- ITS FALSE NEIGHBOUR: 'it returns false'. Refute it at one input. -/
def nodePlacesWrong : ChangeSpec := { name := "nodePlaces", fn := fun _ => fun
  | [d1, d2] => { results := [.lit (.bool false)], args := [d1, d2] }
  | _ => none }
def NodePlacesWrongFalsely : Prop := nodePlacesRow.holds Try.pinned (OpenSpec.ofChange nodePlacesWrong)

/-- 'chandlerylaw08.NodeSizes': WHATEVER THE INPUT: true; the input reads as it did. -/
def nodeSizesSpec : ChangeSpec := { name := "nodeSizes", fn := fun _ => fun
  | [d1, d2, d3, d4] => { results := [.lit (.bool true)], args := [d1, d2, d3, d4] }
  | _ => none }
def nodeSizesRow : OpenClaim := { program := "ytjhenmegcgnkgaa", sum := "8ab00b1e05d3eabcb923471ffb357a75fa6c0e062069fe00deb8c318e70791be", func := "chandlery/chandlerylaw08.NodeSizes", spec := "nodeSizes", unfollowed := true, recurses := true, apart := false }
def NodeSizesSaid : Prop := nodeSizesRow.holds Try.pinned (OpenSpec.ofChange nodeSizesSpec)

/-- ITS FALSE NEIGHBOUR: 'it returns false'. Refute it at one input. -/
def nodeSizesWrong : ChangeSpec := { name := "nodeSizes", fn := fun _ => fun
  | [d1, d2, d3, d4] => { results := [.lit (.bool false)], args := [d1, d2, d3, d4] }
  | _ => none }
def NodeSizesWrongFalsely : Prop := nodeSizesRow.holds Try.pinned (OpenSpec.ofChange nodeSizesWrong)

/-- 'chandlerylaw08.NodeParses': WHATEVER THE INPUT: true; the input reads as it did. -/
def nodeParsesSpec : ChangeSpec := { name := "nodeParses", fn := fun _ => fun
  | [d] => { results := [.lit (.bool true)], args := [d] }
  | _ => none }
def nodeParsesRow : OpenClaim := { program := "ytjhenmegcgnkgaa", sum := "8ab00b1e05d3eabcb923471ffb357a75fa6c0e062069fe00deb8c318e70791be", func := "chandlery/chandlerylaw08.NodeParses", spec := "nodeParses", unfollowed := true, recurses := true, apart := false }
def NodeParsesSaid : Prop := nodeParsesRow.holds Try.pinned (OpenSpec.ofChange nodeParsesSpec)

/-- ITS FALSE NEIGHBOUR: 'it returns false'. Refute it at one input. -/
def nodeParsesWrong : ChangeSpec := { name := "nodeParses", fn := fun _ => fun
  | [d] => { results := [.lit (.bool false)], args := [d] }
  | _ => none }
def NodeParsesWrongFalsely : Prop := nodeParsesRow.holds Try.pinned (OpenSpec.ofChange nodeParsesWrong)

/-- 'chandlerylaw08.NodeBack': WHATEVER THE INPUT: true; the input reads as it did. -/
def nodeBackSpec : ChangeSpec := { name := "nodeBack", fn := fun _ => fun
  | [d1, d2, d3] => { results := [.lit (.bool true)], args := [d1, d2, d3] }
  | _ => none }
def nodeBackRow : OpenClaim := { program := "ytjhenmegcgnkgaa", sum := "8ab00b1e05d3eabcb923471ffb357a75fa6c0e062069fe00deb8c318e70791be", func := "chandlery/chandlerylaw08.NodeBack", spec := "nodeBack", unfollowed := true, recurses := true, apart := false }
def NodeBackSaid : Prop := nodeBackRow.holds Try.pinned (OpenSpec.ofChange nodeBackSpec)

/-- ITS FALSE NEIGHBOUR: 'it returns false'. Refute it at one input. -/
def nodeBackWrong : ChangeSpec := { name := "nodeBack", fn := fun _ => fun
  | [d1, d2, d3] => { results := [.lit (.bool false)], args := [d1, d2, d3] }
  | _ => none }
def NodeBackWrongFalsely : Prop := nodeBackRow.holds Try.pinned (OpenSpec.ofChange nodeBackWrong)

/- THE SECOND FORM. 'bulk': how many values and letters a reading holds, each counted each time it is reached (what is shared counts as often as it is met; a slice's spare places count too). A statement '..UptoSaid' is the law's where the arguments, and the package variables that the reading takes, are together of bulk at most 1048576: NARROWER than '..Said'. Prove '..Said' where nothing that the law and all that it calls make is longer than what came in: it says more and counts as full. Else prove '..UptoSaid'. A law counts once. -/
mutual
def uptoBulk {H : Type} : DataW H → Nat
  | .lit (.string bytes) => bytes.length + 1
  | .lit _ => 1
  | .nil => 1
  | .ptr d => uptoBulk d + 1
  | .slice elems spare => uptoBulkAll elems + uptoBulkAll spare + 1
  | .agg parts => uptoBulkAll parts + 1
  | .iface _ d => uptoBulk d + 1
  | .map entries => uptoBulkEntries entries + 1
  | .held _ => 1
def uptoBulkAll {H : Type} : List (DataW H) → Nat
  | [] => 0
  | d :: r => uptoBulk d + uptoBulkAll r
def uptoBulkEntries {H : Type} : List (Lit × DataW H) → Nat
  | [] => 0
  | x :: r => uptoBulkEntry x + uptoBulkEntries r
def uptoBulkEntry {H : Type} : Lit × DataW H → Nat
  | (.string bytes, d) => bytes.length + uptoBulk d + 1
  | (_, d) => uptoBulk d + 1
 end
def uptoSmall : (H : Type) → List (DataW H) → Bool := fun _ ds => decide (uptoBulkAll ds ≤ 1048576)
def OpenSpec.upto (s : _root_.Go.ChangeSpec) : _root_.Go.OpenSpec := { _root_.Go.OpenSpec.ofChange s with cond := some uptoSmall }

/-- 'chandlerylaw08.NodeLays', WHERE WHAT IT READS IS OF BULK AT MOST 1048576: true; the input reads as it did. -/
def nodeLaysUptoRow : OpenClaim := { program := "ytjhenmegcgnkgaa", sum := "8ab00b1e05d3eabcb923471ffb357a75fa6c0e062069fe00deb8c318e70791be", func := "chandlery/chandlerylaw08.NodeLays", spec := "nodeLays", unfollowed := true, recurses := true, apart := false, narrowed := true }
def NodeLaysUptoSaid : Prop := nodeLaysUptoRow.holds Try.pinned (OpenSpec.upto nodeLaysSpec)

/-- 'chandlerylaw08.NodePlaces', WHERE WHAT IT READS IS OF BULK AT MOST 1048576: true; the input reads as it did. -/
def nodePlacesUptoRow : OpenClaim := { program := "ytjhenmegcgnkgaa", sum := "8ab00b1e05d3eabcb923471ffb357a75fa6c0e062069fe00deb8c318e70791be", func := "chandlery/chandlerylaw08.NodePlaces", spec := "nodePlaces", unfollowed := true, recurses := true, apart := false, narrowed := true }
def NodePlacesUptoSaid : Prop := nodePlacesUptoRow.holds Try.pinned (OpenSpec.upto nodePlacesSpec)

/-- 'chandlerylaw08.NodeSizes', WHERE WHAT IT READS IS OF BULK AT MOST 1048576: true; the input reads as it did. -/
def nodeSizesUptoRow : OpenClaim := { program := "ytjhenmegcgnkgaa", sum := "8ab00b1e05d3eabcb923471ffb357a75fa6c0e062069fe00deb8c318e70791be", func := "chandlery/chandlerylaw08.NodeSizes", spec := "nodeSizes", unfollowed := true, recurses := true, apart := false, narrowed := true }
def NodeSizesUptoSaid : Prop := nodeSizesUptoRow.holds Try.pinned (OpenSpec.upto nodeSizesSpec)

/-- 'chandlerylaw08.NodeParses', WHERE WHAT IT READS IS OF BULK AT MOST 1048576: true; the input reads as it did. -/
def nodeParsesUptoRow : OpenClaim := { program := "ytjhenmegcgnkgaa", sum := "8ab00b1e05d3eabcb923471ffb357a75fa6c0e062069fe00deb8c318e70791be", func := "chandlery/chandlerylaw08.NodeParses", spec := "nodeParses", unfollowed := true, recurses := true, apart := false, narrowed := true }
def NodeParsesUptoSaid : Prop := nodeParsesUptoRow.holds Try.pinned (OpenSpec.upto nodeParsesSpec)

/-- 'chandlerylaw08.NodeBack', WHERE WHAT IT READS IS OF BULK AT MOST 1048576: true; the input reads as it did. -/
def nodeBackUptoRow : OpenClaim := { program := "ytjhenmegcgnkgaa", sum := "8ab00b1e05d3eabcb923471ffb357a75fa6c0e062069fe00deb8c318e70791be", func := "chandlery/chandlerylaw08.NodeBack", spec := "nodeBack", unfollowed := true, recurses := true, apart := false, narrowed := true }
def NodeBackUptoSaid : Prop := nodeBackUptoRow.holds Try.pinned (OpenSpec.upto nodeBackSpec)

end Rows
end Go.Proofs.Ytjhenmegcgnkgaa
