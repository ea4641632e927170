/-
  No cell of these rows narrows 'for every input' (looked for: loops, veiled, ifaces, maps, wideKeys, modest, calm, conditions, laid).
  DERIVED. THE GIVEN ROWS OF THIS SEAT. 6 by the template 'for every input the law returns true; each argument reads behind the call as it read before'; 0 by the template 'total and deterministic' (their statements: YtcohfhclcoiigaaTotals.lean).
  GIVEN WITH THE SEED: the statements are not yours to turn. If you find one false, say at which input.
  Laid BY PROGRAM, IN A SANDBOX (cutbox-rows.mjs): the forced cells as the released guide's own fill.sh prints them over the translation 3f7c07bf8151a5e3… (all of the seat's roots in one cut). By AI agents, Wed Nov 11 2026. No macro, syntax, notation, axiom, sorry.
-/
import Derived.Test.YtcohfhclcoiigaaChecked
import GoSem.Claim
import GoSem.ClaimJoined
import GoSem.ClaimMapViews
import Derived.JoinedTies
import Derived.KernelRfl
namespace Go.Proofs.Ytcohfhclcoiigaa
/- THE CELL 'sum', in the pinned program and in every row, IS THE sha256 OF THE DUMP (.gsa) THAT YtcohfhclcoiigaaProg.lean LOADS. Nothing in Lean hashes anything: it is a label: what it is worth is what the hold of that sum in a sandbox is worth. -/
noncomputable def Try.pinned : Pinned := { name := "ytcohfhclcoiigaa", sum := "3f7c07bf8151a5e32911fdb4ed5042437f124b69e22849d3ec017155f4ee1b9d", checked := Try.checked }
namespace Rows
def none {H : Type} : Left H := { results := [], args := [] }

/-- 'chandlerylaw11.KeysLay': WHATEVER THE INPUT: true; the input reads as it did. -/
def keysLaySpec : ChangeSpec := { name := "keysLay", fn := fun _ => fun
  | [d] => { results := [.lit (.bool true)], args := [d] }
  | _ => none }
def keysLayRow : OpenClaim := { program := "ytcohfhclcoiigaa", sum := "3f7c07bf8151a5e32911fdb4ed5042437f124b69e22849d3ec017155f4ee1b9d", func := "chandlery/chandlerylaw11.KeysLay", spec := "keysLay", inPlace := ["internal/bytealg.IndexByteString", "internal/bytealg.IndexString"], unfollowed := true, recurses := true, named := ["internal/bytealg.MaxLen"], apart := false }
def KeysLaySaid : Prop := keysLayRow.holds Try.pinned (OpenSpec.ofChange keysLaySpec)

/-- ITS FALSE NEIGHBOUR: 'it returns false'. Refute it at one input. -/
def keysLayWrong : ChangeSpec := { name := "keysLay", fn := fun _ => fun
  | [d] => { results := [.lit (.bool false)], args := [d] }
  | _ => none }
def KeysLayWrongFalsely : Prop := keysLayRow.holds Try.pinned (OpenSpec.ofChange keysLayWrong)

/-- 'chandlerylaw11.KeysParse': WHATEVER THE INPUT: true; the input reads as it did. -/
def keysParseSpec : ChangeSpec := { name := "keysParse", fn := fun _ => fun
  | [d] => { results := [.lit (.bool true)], args := [d] }
  | _ => none }
def keysParseRow : OpenClaim := { program := "ytcohfhclcoiigaa", sum := "3f7c07bf8151a5e32911fdb4ed5042437f124b69e22849d3ec017155f4ee1b9d", func := "chandlery/chandlerylaw11.KeysParse", spec := "keysParse", inPlace := ["internal/bytealg.IndexByteString", "internal/bytealg.IndexString"], unfollowed := true, recurses := true, named := ["internal/bytealg.MaxLen"], apart := false }
def KeysParseSaid : Prop := keysParseRow.holds Try.pinned (OpenSpec.ofChange keysParseSpec)

/-- ITS FALSE NEIGHBOUR: 'it returns false'. Refute it at one input. -/
def keysParseWrong : ChangeSpec := { name := "keysParse", fn := fun _ => fun
  | [d] => { results := [.lit (.bool false)], args := [d] }
  | _ => none }
def KeysParseWrongFalsely : Prop := keysParseRow.holds Try.pinned (OpenSpec.ofChange keysParseWrong)

/-- 'chandlerylaw11.KeysBack': WHATEVER THE INPUT: true; the input reads as it did. -/
def keysBackSpec : ChangeSpec := { name := "keysBack", fn := fun _ => fun
  | [d1, d2, d3] => { results := [.lit (.bool true)], args := [d1, d2, d3] }
  | _ => none }
def keysBackRow : OpenClaim := { program := "ytcohfhclcoiigaa", sum := "3f7c07bf8151a5e32911fdb4ed5042437f124b69e22849d3ec017155f4ee1b9d", func := "chandlery/chandlerylaw11.KeysBack", spec := "keysBack", inPlace := ["internal/bytealg.IndexByteString", "internal/bytealg.IndexString"], unfollowed := true, recurses := true, named := ["internal/bytealg.MaxLen"], apart := false }
def KeysBackSaid : Prop := keysBackRow.holds Try.pinned (OpenSpec.ofChange keysBackSpec)

/-- ITS FALSE NEIGHBOUR: 'it returns false'. Refute it at one input. -/
def keysBackWrong : ChangeSpec := { name := "keysBack", fn := fun _ => fun
  | [d1, d2, d3] => { results := [.lit (.bool false)], args := [d1, d2, d3] }
  | _ => none }
def KeysBackWrongFalsely : Prop := keysBackRow.holds Try.pinned (OpenSpec.ofChange keysBackWrong)

/-- 'chandlerylaw11.KeysPrefix': WHATEVER THE INPUT: true; the input reads as it did. -/
def keysPrefixSpec : ChangeSpec := { name := "keysPrefix", fn := fun _ => fun
  | [d1, d2] => { results := [.lit (.bool true)], args := [d1, d2] }
  | _ => none }
def keysPrefixRow : OpenClaim := { program := "ytcohfhclcoiigaa", sum := "3f7c07bf8151a5e32911fdb4ed5042437f124b69e22849d3ec017155f4ee1b9d", func := "chandlery/chandlerylaw11.KeysPrefix", spec := "keysPrefix", inPlace := ["internal/bytealg.IndexByteString", "internal/bytealg.IndexString"], unfollowed := true, recurses := true, named := ["internal/bytealg.MaxLen"], apart := false }
def KeysPrefixSaid : Prop := keysPrefixRow.holds Try.pinned (OpenSpec.ofChange keysPrefixSpec)

/-- ITS FALSE NEIGHBOUR: 'it returns false'. Refute it at one input. -/
def keysPrefixWrong : ChangeSpec := { name := "keysPrefix", fn := fun _ => fun
  | [d1, d2] => { results := [.lit (.bool false)], args := [d1, d2] }
  | _ => none }
def KeysPrefixWrongFalsely : Prop := keysPrefixRow.holds Try.pinned (OpenSpec.ofChange keysPrefixWrong)

/-- 'chandlerylaw11.KeysRise': WHATEVER THE INPUT: true; the input reads as it did. -/
def keysRiseSpec : ChangeSpec := { name := "keysRise", fn := fun _ => fun
  | [d1, d2, d3, d4, d5] => { results := [.lit (.bool true)], args := [d1, d2, d3, d4, d5] }
  | _ => none }
def keysRiseRow : OpenClaim := { program := "ytcohfhclcoiigaa", sum := "3f7c07bf8151a5e32911fdb4ed5042437f124b69e22849d3ec017155f4ee1b9d", func := "chandlery/chandlerylaw11.KeysRise", spec := "keysRise", inPlace := ["internal/bytealg.IndexByteString", "internal/bytealg.IndexString"], unfollowed := true, recurses := true, named := ["internal/bytealg.MaxLen"], apart := false }
def KeysRiseSaid : Prop := keysRiseRow.holds Try.pinned (OpenSpec.ofChange keysRiseSpec)

/-- ITS FALSE NEIGHBOUR: 'it returns false'. Refute it at one input. -/
def keysRiseWrong : ChangeSpec := { name := "keysRise", fn := fun _ => fun
  | [d1, d2, d3, d4, d5] => { results := [.lit (.bool false)], args := [d1, d2, d3, d4, d5] }
  | _ => none }
def KeysRiseWrongFalsely : Prop := keysRiseRow.holds Try.pinned (OpenSpec.ofChange keysRiseWrong)

/-- 'chandlerylaw11.KeysLetters': WHATEVER THE INPUT: true; the input reads as it did. -/
def keysLettersSpec : ChangeSpec := { name := "keysLetters", fn := fun _ => fun
  | [d1, d2] => { results := [.lit (.bool true)], args := [d1, d2] }
  | _ => none }
def keysLettersRow : OpenClaim := { program := "ytcohfhclcoiigaa", sum := "3f7c07bf8151a5e32911fdb4ed5042437f124b69e22849d3ec017155f4ee1b9d", func := "chandlery/chandlerylaw11.KeysLetters", spec := "keysLetters", inPlace := ["internal/bytealg.IndexByteString", "internal/bytealg.IndexString"], unfollowed := true, recurses := true, named := ["internal/bytealg.MaxLen"], apart := false }
def KeysLettersSaid : Prop := keysLettersRow.holds Try.pinned (OpenSpec.ofChange keysLettersSpec)

/-- ITS FALSE NEIGHBOUR: 'it returns false'. Refute it at one input. -/
def keysLettersWrong : ChangeSpec := { name := "keysLetters", fn := fun _ => fun
  | [d1, d2] => { results := [.lit (.bool false)], args := [d1, d2] }
  | _ => none }
def KeysLettersWrongFalsely : Prop := keysLettersRow.holds Try.pinned (OpenSpec.ofChange keysLettersWrong)

/- THE SECOND FORM. 'bulk': how many values and letters a reading holds, each counted each time it is reached (what is shared counts as often as it is met; a slice's spare places count too). A statement '..UptoSaid' is the law's where the arguments, and the package variables that the reading takes, are together of bulk at most 1048576: NARROWER than '..Said'. Prove '..Said' where nothing that the law and all that it calls make is longer than what came in: it says more and counts as full. Else prove '..UptoSaid'. A law counts once. -/
mutual
def uptoBulk {H : Type} : DataW H → Nat
  | .lit (.string bytes) => bytes.length + 1
  | .lit _ => 1
  | .nil => 1
  | .ptr d => uptoBulk d + 1
  | .slice elems spare => uptoBulkAll elems + uptoBulkAll spare + 1
  | .agg parts => uptoBulkAll parts + 1
  | .iface _ d => uptoBulk d + 1
  | .map entries => uptoBulkEntries entries + 1
  | .held _ => 1
def uptoBulkAll {H : Type} : List (DataW H) → Nat
  | [] => 0
  | d :: r => uptoBulk d + uptoBulkAll r
def uptoBulkEntries {H : Type} : List (Lit × DataW H) → Nat
  | [] => 0
  | x :: r => uptoBulkEntry x + uptoBulkEntries r
def uptoBulkEntry {H : Type} : Lit × DataW H → Nat
  | (.string bytes, d) => bytes.length + uptoBulk d + 1
  | (_, d) => uptoBulk d + 1
 end
def uptoSmall : (H : Type) → List (DataW H) → Bool := fun _ ds => decide (uptoBulkAll ds ≤ 1048576)
def OpenSpec.upto (s : _root_.Go.ChangeSpec) : _root_.Go.OpenSpec := { _root_.Go.OpenSpec.ofChange s with cond := some uptoSmall }

/-- 'chandlerylaw11.KeysLay', WHERE WHAT IT READS IS OF BULK AT MOST 1048576: true; the input reads as it did. -/
def keysLayUptoRow : OpenClaim := { program := "ytcohfhclcoiigaa", sum := "3f7c07bf8151a5e32911fdb4ed5042437f124b69e22849d3ec017155f4ee1b9d", func := "chandlery/chandlerylaw11.KeysLay", spec := "keysLay", inPlace := ["internal/bytealg.IndexByteString", "internal/bytealg.IndexString"], unfollowed := true, recurses := true, named := ["internal/bytealg.MaxLen"], apart := false, narrowed := true }
def KeysLayUptoSaid : Prop := keysLayUptoRow.holds Try.pinned (OpenSpec.upto keysLaySpec)

/-- 'chandlerylaw11.KeysParse', WHERE WHAT IT READS IS OF BULK AT MOST 1048576: true; the input reads as it did. -/
def keysParseUptoRow : OpenClaim := { program := "ytcohfhclcoiigaa", sum := "3f7c07bf8151a5e32911fdb4ed5042437f124b69e22849d3ec017155f4ee1b9d", func := "chandlery/chandlerylaw11.KeysParse", spec := "keysParse", inPlace := ["internal/bytealg.IndexByteString", "internal/bytealg.IndexString"], unfollowed := true, recurses := true, named := ["internal/bytealg.MaxLen"], apart := false, narrowed := true }
def KeysParseUptoSaid : Prop := keysParseUptoRow.holds Try.pinned (OpenSpec.upto keysParseSpec)

/-- 'chandlerylaw11.KeysBack', WHERE WHAT IT READS IS OF BULK AT MOST 1048576: true; the input reads as it did. -/
def keysBackUptoRow : OpenClaim := { program := "ytcohfhclcoiigaa", sum := "3f7c07bf8151a5e32911fdb4ed5042437f124b69e22849d3ec017155f4ee1b9d", func := "chandlery/chandlerylaw11.KeysBack", spec := "keysBack", inPlace := ["internal/bytealg.IndexByteString", "internal/bytealg.IndexString"], unfollowed := true, recurses := true, named := ["internal/bytealg.MaxLen"], apart := false, narrowed := true }
def KeysBackUptoSaid : Prop := keysBackUptoRow.holds Try.pinned (OpenSpec.upto keysBackSpec)

/-- 'chandlerylaw11.KeysPrefix', WHERE WHAT IT READS IS OF BULK AT MOST 1048576: true; the input reads as it did. -/
def keysPrefixUptoRow : OpenClaim := { program := "ytcohfhclcoiigaa", sum := "3f7c07bf8151a5e32911fdb4ed5042437f124b69e22849d3ec017155f4ee1b9d", func := "chandlery/chandlerylaw11.KeysPrefix", spec := "keysPrefix", inPlace := ["internal/bytealg.IndexByteString", "internal/bytealg.IndexString"], unfollowed := true, recurses := true, named := ["internal/bytealg.MaxLen"], apart := false, narrowed := true }
def KeysPrefixUptoSaid : Prop := keysPrefixUptoRow.holds Try.pinned (OpenSpec.upto keysPrefixSpec)

/-- 'chandlerylaw11.KeysRise', WHERE WHAT IT READS IS OF BULK AT MOST 1048576: true; the input reads as it did. -/
def keysRiseUptoRow : OpenClaim := { program := "ytcohfhclcoiigaa", sum := "3f7c07bf8151a5e32911fdb4ed5042437f124b69e22849d3ec017155f4ee1b9d", func := "chandlery/chandlerylaw11.KeysRise", spec := "keysRise", inPlace := ["internal/bytealg.IndexByteString", "internal/bytealg.IndexString"], unfollowed := true, recurses := true, named := ["internal/bytealg.MaxLen"], apart := false, narrowed := true }
def KeysRiseUptoSaid : Prop := keysRiseUptoRow.holds Try.pinned (OpenSpec.upto keysRiseSpec)

/-- 'chandlerylaw11.KeysLetters', WHERE WHAT IT READS IS OF BULK AT MOST 1048576: true; the input reads as it did. -/
def keysLettersUptoRow : OpenClaim := { program := "ytcohfhclcoiigaa", sum := "3f7c07bf8151a5e32911fdb4ed5042437f124b69e22849d3ec017155f4ee1b9d", func := "chandlery/chandlerylaw11.KeysLetters", spec := "keysLetters", inPlace := ["internal/bytealg.IndexByteString", "internal/bytealg.IndexString"], unfollowed := true, recurses := true, named := ["internal/bytealg.MaxLen"], apart := false, narrowed := true }
def KeysLettersUptoSaid : Prop := keysLettersUptoRow.holds Try.pinned (OpenSpec.upto keysLettersSpec)

end Rows
end Go.Proofs.Ytcohfhclcoiigaa
