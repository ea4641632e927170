/-
  No cell of these rows narrows 'for every input' (looked for: loops, veiled, ifaces, maps, wideKeys, modest, calm, conditions, laid).
  DERIVED. THE GIVEN ROWS OF THIS SEAT. 5 by the template 'for every input the law returns true; each argument reads behind the call as it read before'; 0 by the template 'total and deterministic' (their statements: YtkmnjekbacdfoaaTotals.lean).
  GIVEN WITH THE SEED: the statements are not yours to turn. If you find one false, say at which input.
  Laid BY PROGRAM, IN A SANDBOX (cutbox-rows.mjs): the forced cells as the released guide's own fill.sh prints them over the translation 6e3fdcece4bf7e21… (all of the seat's roots in one cut). By AI agents, Wed Nov 11 2026. No macro, syntax, notation, axiom, sorry.
-/
import Derived.Test.YtkmnjekbacdfoaaChecked
import GoSem.Claim
import GoSem.ClaimJoined
import GoSem.ClaimMapViews
import Derived.JoinedTies
import Derived.KernelRfl
namespace Go.Proofs.Ytkmnjekbacdfoaa
/- THE CELL 'sum', in the pinned program and in every row, IS THE sha256 OF THE DUMP (.gsa) THAT YtkmnjekbacdfoaaProg.lean LOADS. Nothing in Lean hashes anything: it is a label: what it is worth is what the hold of that sum in a sandbox is worth. -/
noncomputable def Try.pinned : Pinned := { name := "ytkmnjekbacdfoaa", sum := "6e3fdcece4bf7e215a3cd887fd2b3cc7ada090a5b472fc327e8df86475621d83", checked := Try.checked }
namespace Rows
def none {H : Type} : Left H := { results := [], args := [] }

/-- 'chandlerylaw20.ScanFinds': WHATEVER THE INPUT: true; the input reads as it did. -/
def scanFindsSpec : ChangeSpec := { name := "scanFinds", fn := fun _ => fun
  | [d1, d2] => { results := [.lit (.bool true)], args := [d1, d2] }
  | _ => none }
def scanFindsRow : OpenClaim := { program := "ytkmnjekbacdfoaa", sum := "6e3fdcece4bf7e215a3cd887fd2b3cc7ada090a5b472fc327e8df86475621d83", func := "chandlery/chandlerylaw20.ScanFinds", spec := "scanFinds", inPlace := ["internal/bytealg.IndexByteString", "internal/bytealg.IndexString"], unfollowed := true, recurses := true, named := ["internal/bytealg.MaxLen"], apart := false }
def ScanFindsSaid : Prop := scanFindsRow.holds Try.pinned (OpenSpec.ofChange scanFindsSpec)

/-- ITS FALSE NEIGHBOUR: 'it returns false'. Refute it at one input. -/
def scanFindsWrong : ChangeSpec := { name := "scanFinds", fn := fun _ => fun
  | [d1, d2] => { results := [.lit (.bool false)], args := [d1, d2] }
  | _ => none }
def ScanFindsWrongFalsely : Prop := scanFindsRow.holds Try.pinned (OpenSpec.ofChange scanFindsWrong)

/-- 'chandlerylaw20.ScanParts': WHATEVER THE INPUT: true; the input reads as it did. -/
def scanPartsSpec : ChangeSpec := { name := "scanParts", fn := fun _ => fun
  | [d1, d2] => { results := [.lit (.bool true)], args := [d1, d2] }
  | _ => none }
def scanPartsRow : OpenClaim := { program := "ytkmnjekbacdfoaa", sum := "6e3fdcece4bf7e215a3cd887fd2b3cc7ada090a5b472fc327e8df86475621d83", func := "chandlery/chandlerylaw20.ScanParts", spec := "scanParts", inPlace := ["internal/bytealg.IndexByteString", "internal/bytealg.IndexString"], unfollowed := true, recurses := true, named := ["internal/bytealg.MaxLen"], apart := false }
def ScanPartsSaid : Prop := scanPartsRow.holds Try.pinned (OpenSpec.ofChange scanPartsSpec)

/-- ITS FALSE NEIGHBOUR: 'it returns false'. Refute it at one input. -/
def scanPartsWrong : ChangeSpec := { name := "scanParts", fn := fun _ => fun
  | [d1, d2] => { results := [.lit (.bool false)], args := [d1, d2] }
  | _ => none }
def ScanPartsWrongFalsely : Prop := scanPartsRow.holds Try.pinned (OpenSpec.ofChange scanPartsWrong)

/-- 'chandlerylaw20.ScanMore': WHATEVER THE INPUT: true; the input reads as it did. -/
def scanMoreSpec : ChangeSpec := { name := "scanMore", fn := fun _ => fun
  | [d1, d2, d3, d4, d5] => { results := [.lit (.bool true)], args := [d1, d2, d3, d4, d5] }
  | _ => none }
def scanMoreRow : OpenClaim := { program := "ytkmnjekbacdfoaa", sum := "6e3fdcece4bf7e215a3cd887fd2b3cc7ada090a5b472fc327e8df86475621d83", func := "chandlery/chandlerylaw20.ScanMore", spec := "scanMore", inPlace := ["internal/bytealg.IndexByteString", "internal/bytealg.IndexString"], unfollowed := true, recurses := true, named := ["internal/bytealg.MaxLen"], apart := false }
def ScanMoreSaid : Prop := scanMoreRow.holds Try.pinned (OpenSpec.ofChange scanMoreSpec)

/-- ITS FALSE NEIGHBOUR: 'it returns false'. Refute it at one input. -/
def scanMoreWrong : ChangeSpec := { name := "scanMore", fn := fun _ => fun
  | [d1, d2, d3, d4, d5] => { results := [.lit (.bool false)], args := [d1, d2, d3, d4, d5] }
  | _ => none }
def ScanMoreWrongFalsely : Prop := scanMoreRow.holds Try.pinned (OpenSpec.ofChange scanMoreWrong)

/-- 'chandlerylaw20.ScanNil': WHATEVER THE INPUT: true; the input reads as it did. -/
def scanNilSpec : ChangeSpec := { name := "scanNil", fn := fun _ => fun
  | [d] => { results := [.lit (.bool true)], args := [d] }
  | _ => none }
def scanNilRow : OpenClaim := { program := "ytkmnjekbacdfoaa", sum := "6e3fdcece4bf7e215a3cd887fd2b3cc7ada090a5b472fc327e8df86475621d83", func := "chandlery/chandlerylaw20.ScanNil", spec := "scanNil", inPlace := ["internal/bytealg.IndexByteString", "internal/bytealg.IndexString"], unfollowed := true, recurses := true, named := ["internal/bytealg.MaxLen"], apart := false }
def ScanNilSaid : Prop := scanNilRow.holds Try.pinned (OpenSpec.ofChange scanNilSpec)

/-- ITS FALSE NEIGHBOUR: 'it returns false'. Refute it at one input. -/
def scanNilWrong : ChangeSpec := { name := "scanNil", fn := fun _ => fun
  | [d] => { results := [.lit (.bool false)], args := [d] }
  | _ => none }
def ScanNilWrongFalsely : Prop := scanNilRow.holds Try.pinned (OpenSpec.ofChange scanNilWrong)

/-- 'chandlerylaw20.ScanEach': WHATEVER THE INPUT: true; the input reads as it did. -/
def scanEachSpec : ChangeSpec := { name := "scanEach", fn := fun _ => fun
  | [d1, d2, d3] => { results := [.lit (.bool true)], args := [d1, d2, d3] }
  | _ => none }
def scanEachRow : OpenClaim := { program := "ytkmnjekbacdfoaa", sum := "6e3fdcece4bf7e215a3cd887fd2b3cc7ada090a5b472fc327e8df86475621d83", func := "chandlery/chandlerylaw20.ScanEach", spec := "scanEach", inPlace := ["internal/bytealg.IndexByteString", "internal/bytealg.IndexString"], unfollowed := true, recurses := true, named := ["internal/bytealg.MaxLen"], apart := false }
def ScanEachSaid : Prop := scanEachRow.holds Try.pinned (OpenSpec.ofChange scanEachSpec)

/-- ITS FALSE NEIGHBOUR: 'it returns false'. Refute it at one input. -/
def scanEachWrong : ChangeSpec := { name := "scanEach", fn := fun _ => fun
  | [d1, d2, d3] => { results := [.lit (.bool false)], args := [d1, d2, d3] }
  | _ => none }
def ScanEachWrongFalsely : Prop := scanEachRow.holds Try.pinned (OpenSpec.ofChange scanEachWrong)

/- THE SECOND FORM. 'bulk': how many values and letters a reading holds, each counted each time it is reached (what is shared counts as often as it is met; a slice's spare places count too). A statement '..UptoSaid' is the law's where the arguments, and the package variables that the reading takes, are together of bulk at most 1048576: NARROWER than '..Said'. Prove '..Said' where nothing that the law and all that it calls make is longer than what came in: it says more and counts as full. Else prove '..UptoSaid'. A law counts once. -/
mutual
def uptoBulk {H : Type} : DataW H → Nat
  | .lit (.string bytes) => bytes.length + 1
  | .lit _ => 1
  | .nil => 1
  | .ptr d => uptoBulk d + 1
  | .slice elems spare => uptoBulkAll elems + uptoBulkAll spare + 1
  | .agg parts => uptoBulkAll parts + 1
  | .iface _ d => uptoBulk d + 1
  | .map entries => uptoBulkEntries entries + 1
  | .held _ => 1
def uptoBulkAll {H : Type} : List (DataW H) → Nat
  | [] => 0
  | d :: r => uptoBulk d + uptoBulkAll r
def uptoBulkEntries {H : Type} : List (Lit × DataW H) → Nat
  | [] => 0
  | x :: r => uptoBulkEntry x + uptoBulkEntries r
def uptoBulkEntry {H : Type} : Lit × DataW H → Nat
  | (.string bytes, d) => bytes.length + uptoBulk d + 1
  | (_, d) => uptoBulk d + 1
 end
def uptoSmall : (H : Type) → List (DataW H) → Bool := fun _ ds => decide (uptoBulkAll ds ≤ 1048576)
def OpenSpec.upto (s : _root_.Go.ChangeSpec) : _root_.Go.OpenSpec := { _root_.Go.OpenSpec.ofChange s with cond := some uptoSmall }

/-- 'chandlerylaw20.ScanFinds', WHERE WHAT IT READS IS OF BULK AT MOST 1048576: true; the input reads as it did. -/
def scanFindsUptoRow : OpenClaim := { program := "ytkmnjekbacdfoaa", sum := "6e3fdcece4bf7e215a3cd887fd2b3cc7ada090a5b472fc327e8df86475621d83", func := "chandlery/chandlerylaw20.ScanFinds", spec := "scanFinds", inPlace := ["internal/bytealg.IndexByteString", "internal/bytealg.IndexString"], unfollowed := true, recurses := true, named := ["internal/bytealg.MaxLen"], apart := false, narrowed := true }
def ScanFindsUptoSaid : Prop := scanFindsUptoRow.holds Try.pinned (OpenSpec.upto scanFindsSpec)

/-- 'chandlerylaw20.ScanParts', WHERE WHAT IT READS IS OF BULK AT MOST 1048576: true; the input reads as it did. -/
def scanPartsUptoRow : OpenClaim := { program := "ytkmnjekbacdfoaa", sum := "6e3fdcece4bf7e215a3cd887fd2b3cc7ada090a5b472fc327e8df86475621d83", func := "chandlery/chandlerylaw20.ScanParts", spec := "scanParts", inPlace := ["internal/bytealg.IndexByteString", "internal/bytealg.IndexString"], unfollowed := true, recurses := true, named := ["internal/bytealg.MaxLen"], apart := false, narrowed := true }
def ScanPartsUptoSaid : Prop := scanPartsUptoRow.holds Try.pinned (OpenSpec.upto scanPartsSpec)

/-- 'chandlerylaw20.ScanMore', WHERE WHAT IT READS IS OF BULK AT MOST 1048576: true; the input reads as it did. -/
def scanMoreUptoRow : OpenClaim := { program := "ytkmnjekbacdfoaa", sum := "6e3fdcece4bf7e215a3cd887fd2b3cc7ada090a5b472fc327e8df86475621d83", func := "chandlery/chandlerylaw20.ScanMore", spec := "scanMore", inPlace := ["internal/bytealg.IndexByteString", "internal/bytealg.IndexString"], unfollowed := true, recurses := true, named := ["internal/bytealg.MaxLen"], apart := false, narrowed := true }
def ScanMoreUptoSaid : Prop := scanMoreUptoRow.holds Try.pinned (OpenSpec.upto scanMoreSpec)

/-- 'chandlerylaw20.ScanNil', WHERE WHAT IT READS IS OF BULK AT MOST 1048576: true; the input reads as it did. -/
def scanNilUptoRow : OpenClaim := { program := "ytkmnjekbacdfoaa", sum := "6e3fdcece4bf7e215a3cd887fd2b3cc7ada090a5b472fc327e8df86475621d83", func := "chandlery/chandlerylaw20.ScanNil", spec := "scanNil", inPlace := ["internal/bytealg.IndexByteString", "internal/bytealg.IndexString"], unfollowed := true, recurses := true, named := ["internal/bytealg.MaxLen"], apart := false, narrowed := true }
def ScanNilUptoSaid : Prop := scanNilUptoRow.holds Try.pinned (OpenSpec.upto scanNilSpec)

/-- 'chandlerylaw20.ScanEach', WHERE WHAT IT READS IS OF BULK AT MOST 1048576: true; the input reads as it did. -/
def scanEachUptoRow : OpenClaim := { program := "ytkmnjekbacdfoaa", sum := "6e3fdcece4bf7e215a3cd887fd2b3cc7ada090a5b472fc327e8df86475621d83", func := "chandlery/chandlerylaw20.ScanEach", spec := "scanEach", inPlace := ["internal/bytealg.IndexByteString", "internal/bytealg.IndexString"], unfollowed := true, recurses := true, named := ["internal/bytealg.MaxLen"], apart := false, narrowed := true }
def ScanEachUptoSaid : Prop := scanEachUptoRow.holds Try.pinned (OpenSpec.upto scanEachSpec)

end Rows
end Go.Proofs.Ytkmnjekbacdfoaa
