/-
  No cell of these rows narrows 'for every input' (looked for: loops, veiled, ifaces, maps, wideKeys, modest, calm, conditions, laid).
  DERIVED. THE GIVEN ROWS OF THIS SEAT. 9 by the template 'for every input the law returns true; each argument reads behind the call as it read before'; 0 by the template 'total and deterministic' (their statements: YtlcaogiljiieaaaTotals.lean).
  GIVEN WITH THE SEED: the statements are not yours to turn. If you find one false, say at which input.
  Laid BY PROGRAM, IN A SANDBOX (cutbox-rows.mjs): the forced cells as the released guide's own fill.sh prints them over the translation 0ba61eb47f2ced09… (all of the seat's roots in one cut). By AI agents, Wed Nov 11 2026. No macro, syntax, notation, axiom, sorry.
-/
import Derived.Test.YtlcaogiljiieaaaChecked
import GoSem.Claim
import GoSem.ClaimJoined
import GoSem.ClaimMapViews
import Derived.JoinedTies
import Derived.KernelRfl
namespace Go.Proofs.Ytlcaogiljiieaaa
/- THE CELL 'sum', in the pinned program and in every row, IS THE sha256 OF THE DUMP (.gsa) THAT YtlcaogiljiieaaaProg.lean LOADS. Nothing in Lean hashes anything: it is a label: what it is worth is what the hold of that sum in a sandbox is worth. -/
noncomputable def Try.pinned : Pinned := { name := "ytlcaogiljiieaaa", sum := "0ba61eb47f2ced097d481d9d1445f6437de4efceec8bcde3811f5f24a5e88da9", checked := Try.checked }
namespace Rows
def none {H : Type} : Left H := { results := [], args := [] }

/-- 'chandlerylaw17.NarwParts': WHATEVER THE INPUT: true; the input reads as it did. -/
def narwPartsSpec : ChangeSpec := { name := "narwParts", fn := fun _ => fun
  | [d1, d2] => { results := [.lit (.bool true)], args := [d1, d2] }
  | _ => none }
def narwPartsRow : OpenClaim := { program := "ytlcaogiljiieaaa", sum := "0ba61eb47f2ced097d481d9d1445f6437de4efceec8bcde3811f5f24a5e88da9", func := "chandlery/chandlerylaw17.NarwParts", spec := "narwParts", inPlace := ["internal/bytealg.IndexByteString", "internal/bytealg.IndexString"], unfollowed := true, recurses := true, named := ["internal/bytealg.MaxLen"], apart := false }
def NarwPartsSaid : Prop := narwPartsRow.holds Try.pinned (OpenSpec.ofChange narwPartsSpec)

/-- ITS FALSE NEIGHBOUR: 'it returns false'. Refute it at one input. -/
def narwPartsWrong : ChangeSpec := { name := "narwParts", fn := fun _ => fun
  | [d1, d2] => { results := [.lit (.bool false)], args := [d1, d2] }
  | _ => none }
def NarwPartsWrongFalsely : Prop := narwPartsRow.holds Try.pinned (OpenSpec.ofChange narwPartsWrong)

/-- 'chandlerylaw17.NarwLays': WHATEVER THE INPUT: true; the input reads as it did. -/
def narwLaysSpec : ChangeSpec := { name := "narwLays", fn := fun _ => fun
  | [d] => { results := [.lit (.bool true)], args := [d] }
  | _ => none }
def narwLaysRow : OpenClaim := { program := "ytlcaogiljiieaaa", sum := "0ba61eb47f2ced097d481d9d1445f6437de4efceec8bcde3811f5f24a5e88da9", func := "chandlery/chandlerylaw17.NarwLays", spec := "narwLays", inPlace := ["internal/bytealg.IndexByteString", "internal/bytealg.IndexString"], unfollowed := true, recurses := true, named := ["internal/bytealg.MaxLen"], apart := false }
def NarwLaysSaid : Prop := narwLaysRow.holds Try.pinned (OpenSpec.ofChange narwLaysSpec)

/-- ITS FALSE NEIGHBOUR: 'it returns false'. Refute it at one input. -/
def narwLaysWrong : ChangeSpec := { name := "narwLays", fn := fun _ => fun
  | [d] => { results := [.lit (.bool false)], args := [d] }
  | _ => none }
def NarwLaysWrongFalsely : Prop := narwLaysRow.holds Try.pinned (OpenSpec.ofChange narwLaysWrong)

/-- 'chandlerylaw17.NarwApart': WHATEVER THE INPUT: true; the input reads as it did. -/
def narwApartSpec : ChangeSpec := { name := "narwApart", fn := fun _ => fun
  | [d1, d2] => { results := [.lit (.bool true)], args := [d1, d2] }
  | _ => none }
def narwApartRow : OpenClaim := { program := "ytlcaogiljiieaaa", sum := "0ba61eb47f2ced097d481d9d1445f6437de4efceec8bcde3811f5f24a5e88da9", func := "chandlery/chandlerylaw17.NarwApart", spec := "narwApart", inPlace := ["internal/bytealg.IndexByteString", "internal/bytealg.IndexString"], unfollowed := true, recurses := true, named := ["internal/bytealg.MaxLen"], apart := false }
def NarwApartSaid : Prop := narwApartRow.holds Try.pinned (OpenSpec.ofChange narwApartSpec)

/-- ITS FALSE NEIGHBOUR: 'it returns false'. Refute it at one input. -/
def narwApartWrong : ChangeSpec := { name := "narwApart", fn := fun _ => fun
  | [d1, d2] => { results := [.lit (.bool false)], args := [d1, d2] }
  | _ => none }
def NarwApartWrongFalsely : Prop := narwApartRow.holds Try.pinned (OpenSpec.ofChange narwApartWrong)

/-- 'chandlerylaw17.NarwFile': WHATEVER THE INPUT: true; the input reads as it did. -/
def narwFileSpec : ChangeSpec := { name := "narwFile", fn := fun _ => fun
  | [d1, d2] => { results := [.lit (.bool true)], args := [d1, d2] }
  | _ => none }
def narwFileRow : OpenClaim := { program := "ytlcaogiljiieaaa", sum := "0ba61eb47f2ced097d481d9d1445f6437de4efceec8bcde3811f5f24a5e88da9", func := "chandlery/chandlerylaw17.NarwFile", spec := "narwFile", inPlace := ["internal/bytealg.IndexByteString", "internal/bytealg.IndexString"], unfollowed := true, recurses := true, named := ["internal/bytealg.MaxLen"], apart := false }
def NarwFileSaid : Prop := narwFileRow.holds Try.pinned (OpenSpec.ofChange narwFileSpec)

/-- ITS FALSE NEIGHBOUR: 'it returns false'. Refute it at one input. -/
def narwFileWrong : ChangeSpec := { name := "narwFile", fn := fun _ => fun
  | [d1, d2] => { results := [.lit (.bool false)], args := [d1, d2] }
  | _ => none }
def NarwFileWrongFalsely : Prop := narwFileRow.holds Try.pinned (OpenSpec.ofChange narwFileWrong)

/-- 'chandlerylaw16.TreeChecks': WHATEVER THE INPUT: true; the input reads as it did. -/
def treeChecksSpec : ChangeSpec := { name := "treeChecks", fn := fun _ => fun
  | [d1, d2] => { results := [.lit (.bool true)], args := [d1, d2] }
  | _ => none }
def treeChecksRow : OpenClaim := { program := "ytlcaogiljiieaaa", sum := "0ba61eb47f2ced097d481d9d1445f6437de4efceec8bcde3811f5f24a5e88da9", func := "chandlery/chandlerylaw16.TreeChecks", spec := "treeChecks", inPlace := ["internal/bytealg.IndexByteString", "internal/bytealg.IndexString"], unfollowed := true, recurses := true, named := ["internal/bytealg.MaxLen"], apart := false }
def TreeChecksSaid : Prop := treeChecksRow.holds Try.pinned (OpenSpec.ofChange treeChecksSpec)

/-- ITS FALSE NEIGHBOUR: 'it returns false'. Refute it at one input. -/
def treeChecksWrong : ChangeSpec := { name := "treeChecks", fn := fun _ => fun
  | [d1, d2] => { results := [.lit (.bool false)], args := [d1, d2] }
  | _ => none }
def TreeChecksWrongFalsely : Prop := treeChecksRow.holds Try.pinned (OpenSpec.ofChange treeChecksWrong)

/-- 'chandlerylaw16.TreeSorts': WHATEVER THE INPUT: true; the input reads as it did. -/
def treeSortsSpec : ChangeSpec := { name := "treeSorts", fn := fun _ => fun
  | [d1, d2] => { results := [.lit (.bool true)], args := [d1, d2] }
  | _ => none }
def treeSortsRow : OpenClaim := { program := "ytlcaogiljiieaaa", sum := "0ba61eb47f2ced097d481d9d1445f6437de4efceec8bcde3811f5f24a5e88da9", func := "chandlery/chandlerylaw16.TreeSorts", spec := "treeSorts", inPlace := ["internal/bytealg.IndexByteString", "internal/bytealg.IndexString"], unfollowed := true, recurses := true, named := ["internal/bytealg.MaxLen"], apart := false }
def TreeSortsSaid : Prop := treeSortsRow.holds Try.pinned (OpenSpec.ofChange treeSortsSpec)

/-- ITS FALSE NEIGHBOUR: 'it returns false'. Refute it at one input. -/
def treeSortsWrong : ChangeSpec := { name := "treeSorts", fn := fun _ => fun
  | [d1, d2] => { results := [.lit (.bool false)], args := [d1, d2] }
  | _ => none }
def TreeSortsWrongFalsely : Prop := treeSortsRow.holds Try.pinned (OpenSpec.ofChange treeSortsWrong)

/-- 'chandlerylaw16.TreeBelow': WHATEVER THE INPUT: true; the input reads as it did. -/
def treeBelowSpec : ChangeSpec := { name := "treeBelow", fn := fun _ => fun
  | [d1, d2] => { results := [.lit (.bool true)], args := [d1, d2] }
  | _ => none }
def treeBelowRow : OpenClaim := { program := "ytlcaogiljiieaaa", sum := "0ba61eb47f2ced097d481d9d1445f6437de4efceec8bcde3811f5f24a5e88da9", func := "chandlery/chandlerylaw16.TreeBelow", spec := "treeBelow", inPlace := ["internal/bytealg.IndexByteString", "internal/bytealg.IndexString"], unfollowed := true, recurses := true, named := ["internal/bytealg.MaxLen"], apart := false }
def TreeBelowSaid : Prop := treeBelowRow.holds Try.pinned (OpenSpec.ofChange treeBelowSpec)

/-- ITS FALSE NEIGHBOUR: 'it returns false'. Refute it at one input. -/
def treeBelowWrong : ChangeSpec := { name := "treeBelow", fn := fun _ => fun
  | [d1, d2] => { results := [.lit (.bool false)], args := [d1, d2] }
  | _ => none }
def TreeBelowWrongFalsely : Prop := treeBelowRow.holds Try.pinned (OpenSpec.ofChange treeBelowWrong)

/-- 'chandlerylaw16.TreeLong': WHATEVER THE INPUT: true; the input reads as it did. -/
def treeLongSpec : ChangeSpec := { name := "treeLong", fn := fun _ => fun
  | [d] => { results := [.lit (.bool true)], args := [d] }
  | _ => none }
def treeLongRow : OpenClaim := { program := "ytlcaogiljiieaaa", sum := "0ba61eb47f2ced097d481d9d1445f6437de4efceec8bcde3811f5f24a5e88da9", func := "chandlery/chandlerylaw16.TreeLong", spec := "treeLong", inPlace := ["internal/bytealg.IndexByteString", "internal/bytealg.IndexString"], unfollowed := true, recurses := true, named := ["internal/bytealg.MaxLen"], apart := false }
def TreeLongSaid : Prop := treeLongRow.holds Try.pinned (OpenSpec.ofChange treeLongSpec)

/-- ITS FALSE NEIGHBOUR: 'it returns false'. Refute it at one input. -/
def treeLongWrong : ChangeSpec := { name := "treeLong", fn := fun _ => fun
  | [d] => { results := [.lit (.bool false)], args := [d] }
  | _ => none }
def TreeLongWrongFalsely : Prop := treeLongRow.holds Try.pinned (OpenSpec.ofChange treeLongWrong)

/-- 'chandlerylaw16.TreeAll': WHATEVER THE INPUT: true; the input reads as it did. -/
def treeAllSpec : ChangeSpec := { name := "treeAll", fn := fun _ => fun
  | [d] => { results := [.lit (.bool true)], args := [d] }
  | _ => none }
def treeAllRow : OpenClaim := { program := "ytlcaogiljiieaaa", sum := "0ba61eb47f2ced097d481d9d1445f6437de4efceec8bcde3811f5f24a5e88da9", func := "chandlery/chandlerylaw16.TreeAll", spec := "treeAll", inPlace := ["internal/bytealg.IndexByteString", "internal/bytealg.IndexString"], unfollowed := true, recurses := true, named := ["internal/bytealg.MaxLen"], apart := false }
def TreeAllSaid : Prop := treeAllRow.holds Try.pinned (OpenSpec.ofChange treeAllSpec)

/-- ITS FALSE NEIGHBOUR: 'it returns false'. Refute it at one input. -/
def treeAllWrong : ChangeSpec := { name := "treeAll", fn := fun _ => fun
  | [d] => { results := [.lit (.bool false)], args := [d] }
  | _ => none }
def TreeAllWrongFalsely : Prop := treeAllRow.holds Try.pinned (OpenSpec.ofChange treeAllWrong)

/- THE SECOND FORM. 'bulk': how many values and letters a reading holds, each counted each time it is reached (what is shared counts as often as it is met; a slice's spare places count too). A statement '..UptoSaid' is the law's where the arguments, and the package variables that the reading takes, are together of bulk at most 1048576: NARROWER than '..Said'. Prove '..Said' where nothing that the law and all that it calls make is longer than what came in: it says more and counts as full. Else prove '..UptoSaid'. A law counts once. -/
mutual
def uptoBulk {H : Type} : DataW H → Nat
  | .lit (.string bytes) => bytes.length + 1
  | .lit _ => 1
  | .nil => 1
  | .ptr d => uptoBulk d + 1
  | .slice elems spare => uptoBulkAll elems + uptoBulkAll spare + 1
  | .agg parts => uptoBulkAll parts + 1
  | .iface _ d => uptoBulk d + 1
  | .map entries => uptoBulkEntries entries + 1
  | .held _ => 1
def uptoBulkAll {H : Type} : List (DataW H) → Nat
  | [] => 0
  | d :: r => uptoBulk d + uptoBulkAll r
def uptoBulkEntries {H : Type} : List (Lit × DataW H) → Nat
  | [] => 0
  | x :: r => uptoBulkEntry x + uptoBulkEntries r
def uptoBulkEntry {H : Type} : Lit × DataW H → Nat
  | (.string bytes, d) => bytes.length + uptoBulk d + 1
  | (_, d) => uptoBulk d + 1
 end
def uptoSmall : (H : Type) → List (DataW H) → Bool := fun _ ds => decide (uptoBulkAll ds ≤ 1048576)
def OpenSpec.upto (s : _root_.Go.ChangeSpec) : _root_.Go.OpenSpec := { _root_.Go.OpenSpec.ofChange s with cond := some uptoSmall }

/-- 'chandlerylaw17.NarwParts', WHERE WHAT IT READS IS OF BULK AT MOST 1048576: true; the input reads as it did. -/
def narwPartsUptoRow : OpenClaim := { program := "ytlcaogiljiieaaa", sum := "0ba61eb47f2ced097d481d9d1445f6437de4efceec8bcde3811f5f24a5e88da9", func := "chandlery/chandlerylaw17.NarwParts", spec := "narwParts", inPlace := ["internal/bytealg.IndexByteString", "internal/bytealg.IndexString"], unfollowed := true, recurses := true, named := ["internal/bytealg.MaxLen"], apart := false, narrowed := true }
def NarwPartsUptoSaid : Prop := narwPartsUptoRow.holds Try.pinned (OpenSpec.upto narwPartsSpec)

/-- 'chandlerylaw17.NarwLays', WHERE WHAT IT READS IS OF BULK AT MOST 1048576: true; the input reads as it did. -/
def narwLaysUptoRow : OpenClaim := { program := "ytlcaogiljiieaaa", sum := "0ba61eb47f2ced097d481d9d1445f6437de4efceec8bcde3811f5f24a5e88da9", func := "chandlery/chandlerylaw17.NarwLays", spec := "narwLays", inPlace := ["internal/bytealg.IndexByteString", "internal/bytealg.IndexString"], unfollowed := true, recurses := true, named := ["internal/bytealg.MaxLen"], apart := false, narrowed := true }
def NarwLaysUptoSaid : Prop := narwLaysUptoRow.holds Try.pinned (OpenSpec.upto narwLaysSpec)

/-- 'chandlerylaw17.NarwApart', WHERE WHAT IT READS IS OF BULK AT MOST 1048576: true; the input reads as it did. -/
def narwApartUptoRow : OpenClaim := { program := "ytlcaogiljiieaaa", sum := "0ba61eb47f2ced097d481d9d1445f6437de4efceec8bcde3811f5f24a5e88da9", func := "chandlery/chandlerylaw17.NarwApart", spec := "narwApart", inPlace := ["internal/bytealg.IndexByteString", "internal/bytealg.IndexString"], unfollowed := true, recurses := true, named := ["internal/bytealg.MaxLen"], apart := false, narrowed := true }
def NarwApartUptoSaid : Prop := narwApartUptoRow.holds Try.pinned (OpenSpec.upto narwApartSpec)

/-- 'chandlerylaw17.NarwFile', WHERE WHAT IT READS IS OF BULK AT MOST 1048576: true; the input reads as it did. -/
def narwFileUptoRow : OpenClaim := { program := "ytlcaogiljiieaaa", sum := "0ba61eb47f2ced097d481d9d1445f6437de4efceec8bcde3811f5f24a5e88da9", func := "chandlery/chandlerylaw17.NarwFile", spec := "narwFile", inPlace := ["internal/bytealg.IndexByteString", "internal/bytealg.IndexString"], unfollowed := true, recurses := true, named := ["internal/bytealg.MaxLen"], apart := false, narrowed := true }
def NarwFileUptoSaid : Prop := narwFileUptoRow.holds Try.pinned (OpenSpec.upto narwFileSpec)

/-- 'chandlerylaw16.TreeChecks', WHERE WHAT IT READS IS OF BULK AT MOST 1048576: true; the input reads as it did. -/
def treeChecksUptoRow : OpenClaim := { program := "ytlcaogiljiieaaa", sum := "0ba61eb47f2ced097d481d9d1445f6437de4efceec8bcde3811f5f24a5e88da9", func := "chandlery/chandlerylaw16.TreeChecks", spec := "treeChecks", inPlace := ["internal/bytealg.IndexByteString", "internal/bytealg.IndexString"], unfollowed := true, recurses := true, named := ["internal/bytealg.MaxLen"], apart := false, narrowed := true }
def TreeChecksUptoSaid : Prop := treeChecksUptoRow.holds Try.pinned (OpenSpec.upto treeChecksSpec)

/-- 'chandlerylaw16.TreeSorts', WHERE WHAT IT READS IS OF BULK AT MOST 1048576: true; the input reads as it did. -/
def treeSortsUptoRow : OpenClaim := { program := "ytlcaogiljiieaaa", sum := "0ba61eb47f2ced097d481d9d1445f6437de4efceec8bcde3811f5f24a5e88da9", func := "chandlery/chandlerylaw16.TreeSorts", spec := "treeSorts", inPlace := ["internal/bytealg.IndexByteString", "internal/bytealg.IndexString"], unfollowed := true, recurses := true, named := ["internal/bytealg.MaxLen"], apart := false, narrowed := true }
def TreeSortsUptoSaid : Prop := treeSortsUptoRow.holds Try.pinned (OpenSpec.upto treeSortsSpec)

/-- 'chandlerylaw16.TreeBelow', WHERE WHAT IT READS IS OF BULK AT MOST 1048576: true; the input reads as it did. -/
def treeBelowUptoRow : OpenClaim := { program := "ytlcaogiljiieaaa", sum := "0ba61eb47f2ced097d481d9d1445f6437de4efceec8bcde3811f5f24a5e88da9", func := "chandlery/chandlerylaw16.TreeBelow", spec := "treeBelow", inPlace := ["internal/bytealg.IndexByteString", "internal/bytealg.IndexString"], unfollowed := true, recurses := true, named := ["internal/bytealg.MaxLen"], apart := false, narrowed := true }
def TreeBelowUptoSaid : Prop := treeBelowUptoRow.holds Try.pinned (OpenSpec.upto treeBelowSpec)

/-- 'chandlerylaw16.TreeLong', WHERE WHAT IT READS IS OF BULK AT MOST 1048576: true; the input reads as it did. -/
def treeLongUptoRow : OpenClaim := { program := "ytlcaogiljiieaaa", sum := "0ba61eb47f2ced097d481d9d1445f6437de4efceec8bcde3811f5f24a5e88da9", func := "chandlery/chandlerylaw16.TreeLong", spec := "treeLong", inPlace := ["internal/bytealg.IndexByteString", "internal/bytealg.IndexString"], unfollowed := true, recurses := true, named := ["internal/bytealg.MaxLen"], apart := false, narrowed := true }
def TreeLongUptoSaid : Prop := treeLongUptoRow.holds Try.pinned (OpenSpec.upto treeLongSpec)

/-- 'chandlerylaw16.TreeAll', WHERE WHAT IT READS IS OF BULK AT MOST 1048576: true; the input reads as it did. -/
def treeAllUptoRow : OpenClaim := { program := "ytlcaogiljiieaaa", sum := "0ba61eb47f2ced097d481d9d1445f6437de4efceec8bcde3811f5f24a5e88da9", func := "chandlery/chandlerylaw16.TreeAll", spec := "treeAll", inPlace := ["internal/bytealg.IndexByteString", "internal/bytealg.IndexString"], unfollowed := true, recurses := true, named := ["internal/bytealg.MaxLen"], apart := false, narrowed := true }
def TreeAllUptoSaid : Prop := treeAllUptoRow.holds Try.pinned (OpenSpec.upto treeAllSpec)

end Rows
end Go.Proofs.Ytlcaogiljiieaaa
