/-
  NARROWER THAN 'FOR EVERY INPUT', by the rows' own cells (each row's printed sentence says how): BaseHex: laid · BaseDecodes: laid · BaseBack: laid · BaseOrder: laid · BaseNoughts: laid · BaseEncodes: laid.
  DERIVED. THE GIVEN ROWS OF THIS SEAT. 6 by the template 'for every input the law returns true; each argument reads behind the call as it read before'; 0 by the template 'total and deterministic' (their statements: YtalbbifgkninmaaDoorTotals.lean).
  GIVEN WITH THE SEED: the statements are not yours to turn. If you find one false, say at which input.
  Laid BY PROGRAM, IN A SANDBOX (cutbox-rows.mjs): the forced cells as the released guide's own fill.sh prints them over the translation df9166842a9a5a5c… (all of the seat's roots in one cut). By AI agents, Wed Nov 11 2026. No macro, syntax, notation, axiom, sorry.
-/
import Derived.Test.YtalbbifgkninmaaDoorChecked
import GoSem.PinnedTables
import GoSem.Claim
import GoSem.ClaimJoined
import GoSem.ClaimMapViews
import Derived.JoinedTies
import Derived.KernelRfl
namespace Go.Proofs.YtalbbifgkninmaaDoor
/- THE CELL 'sum', in the pinned program and in every row, IS THE sha256 OF THE DUMP (.gsa) THAT YtalbbifgkninmaaDoorProg.lean LOADS. Nothing in Lean hashes anything: it is a label: what it is worth is what the hold of that sum in a sandbox is worth. -/
noncomputable def Tryd.pinned : Pinned := { name := "ytalbbifgkninmaadoor", sum := "df9166842a9a5a5c812bca66e135b18c54b9b4ea7e681ec967b81c2eb13c197b", checked := Tryd.checked }
namespace Rows
def none {H : Type} : Left H := { results := [], args := [] }

/- WHAT THE LISTED PACKAGE-LEVEL VARIABLES READ AS WHEN THE CALL BEGINS. Each datum BY PROGRAM (the guide's laid-datum.mjs) off the statement by which the dump's own 'gosem.cut.vars' lays the variable. In a bare row this is a premise. The card (YtalbbifgkninmaaDoorCards.lean) ties it to the program's text. -/
def laid_unicode_utf8_acceptRanges {H : Type} : DataW H := .agg [.agg [.lit (.int .u8 128), .lit (.int .u8 191)], .agg [.lit (.int .u8 160), .lit (.int .u8 191)], .agg [.lit (.int .u8 128), .lit (.int .u8 159)], .agg [.lit (.int .u8 144), .lit (.int .u8 191)], .agg [.lit (.int .u8 128), .lit (.int .u8 143)], .agg [.lit (.int .u8 0), .lit (.int .u8 0)], .agg [.lit (.int .u8 0), .lit (.int .u8 0)], .agg [.lit (.int .u8 0), .lit (.int .u8 0)], .agg [.lit (.int .u8 0), .lit (.int .u8 0)], .agg [.lit (.int .u8 0), .lit (.int .u8 0)], .agg [.lit (.int .u8 0), .lit (.int .u8 0)], .agg [.lit (.int .u8 0), .lit (.int .u8 0)], .agg [.lit (.int .u8 0), .lit (.int .u8 0)], .agg [.lit (.int .u8 0), .lit (.int .u8 0)], .agg [.lit (.int .u8 0), .lit (.int .u8 0)], .agg [.lit (.int .u8 0), .lit (.int .u8 0)]]
/-- One of Go's own tables, pinned by name: the form's constant. -/
def laid_unicode_utf8_first : DataW Unit := Go.Pinned.utf8First

/-- 'chandlerylaw02.BaseHex': WHATEVER THE INPUT: true; the input reads as it did. -/
def baseHexSpec : ChangeSpec := { name := "baseHex", fn := fun _ => fun
  | [d1, d2] => { results := [.lit (.bool true)], args := [d1, d2] }
  | _ => none }
def baseHexRow : OpenClaim := { program := "ytalbbifgkninmaadoor", sum := "df9166842a9a5a5c812bca66e135b18c54b9b4ea7e681ec967b81c2eb13c197b", func := "chandlery/chandlerylaw02.BaseHex", spec := "baseHex", inPlace := ["internal/abi.NoEscape", "internal/bytealg.IndexByteString", "internal/bytealg.IndexString"], named := ["unicode/utf8.first", "unicode/utf8.acceptRanges", "internal/bytealg.MaxLen"], apart := false, laid := [("unicode/utf8.acceptRanges", laid_unicode_utf8_acceptRanges), ("unicode/utf8.first", laid_unicode_utf8_first)] }
def BaseHexSaid : Prop := baseHexRow.holds Tryd.pinned (OpenSpec.ofChange baseHexSpec)

/-- ITS FALSE NEIGHBOUR: 'it returns false'. Refute it at one input. -/
def baseHexWrong : ChangeSpec := { name := "baseHex", fn := fun _ => fun
  | [d1, d2] => { results := [.lit (.bool false)], args := [d1, d2] }
  | _ => none }
def BaseHexWrongFalsely : Prop := baseHexRow.holds Tryd.pinned (OpenSpec.ofChange baseHexWrong)

/-- 'chandlerylaw02.BaseDecodes': WHATEVER THE INPUT: true; the input reads as it did. -/
def baseDecodesSpec : ChangeSpec := { name := "baseDecodes", fn := fun _ => fun
  | [d] => { results := [.lit (.bool true)], args := [d] }
  | _ => none }
def baseDecodesRow : OpenClaim := { program := "ytalbbifgkninmaadoor", sum := "df9166842a9a5a5c812bca66e135b18c54b9b4ea7e681ec967b81c2eb13c197b", func := "chandlery/chandlerylaw02.BaseDecodes", spec := "baseDecodes", inPlace := ["internal/bytealg.IndexByteString", "internal/bytealg.IndexString", "internal/abi.NoEscape"], named := ["unicode/utf8.first", "unicode/utf8.acceptRanges", "internal/bytealg.MaxLen"], apart := false, laid := [("unicode/utf8.acceptRanges", laid_unicode_utf8_acceptRanges), ("unicode/utf8.first", laid_unicode_utf8_first)] }
def BaseDecodesSaid : Prop := baseDecodesRow.holds Tryd.pinned (OpenSpec.ofChange baseDecodesSpec)

/-- ITS FALSE NEIGHBOUR: 'it returns false'. Refute it at one input. -/
def baseDecodesWrong : ChangeSpec := { name := "baseDecodes", fn := fun _ => fun
  | [d] => { results := [.lit (.bool false)], args := [d] }
  | _ => none }
def BaseDecodesWrongFalsely : Prop := baseDecodesRow.holds Tryd.pinned (OpenSpec.ofChange baseDecodesWrong)

/-- 'chandlerylaw02.BaseBack': WHATEVER THE INPUT: true; the input reads as it did. -/
def baseBackSpec : ChangeSpec := { name := "baseBack", fn := fun _ => fun
  | [d1, d2, d3] => { results := [.lit (.bool true)], args := [d1, d2, d3] }
  | _ => none }
def baseBackRow : OpenClaim := { program := "ytalbbifgkninmaadoor", sum := "df9166842a9a5a5c812bca66e135b18c54b9b4ea7e681ec967b81c2eb13c197b", func := "chandlery/chandlerylaw02.BaseBack", spec := "baseBack", inPlace := ["internal/bytealg.IndexByteString", "internal/bytealg.IndexString", "internal/abi.NoEscape"], named := ["unicode/utf8.first", "unicode/utf8.acceptRanges", "internal/bytealg.MaxLen"], apart := false, laid := [("unicode/utf8.acceptRanges", laid_unicode_utf8_acceptRanges), ("unicode/utf8.first", laid_unicode_utf8_first)] }
def BaseBackSaid : Prop := baseBackRow.holds Tryd.pinned (OpenSpec.ofChange baseBackSpec)

/-- ITS FALSE NEIGHBOUR: 'it returns false'. Refute it at one input. -/
def baseBackWrong : ChangeSpec := { name := "baseBack", fn := fun _ => fun
  | [d1, d2, d3] => { results := [.lit (.bool false)], args := [d1, d2, d3] }
  | _ => none }
def BaseBackWrongFalsely : Prop := baseBackRow.holds Tryd.pinned (OpenSpec.ofChange baseBackWrong)

/-- 'chandlerylaw02.BaseOrder': WHATEVER THE INPUT: true; the input reads as it did. -/
def baseOrderSpec : ChangeSpec := { name := "baseOrder", fn := fun _ => fun
  | [d1, d2] => { results := [.lit (.bool true)], args := [d1, d2] }
  | _ => none }
def baseOrderRow : OpenClaim := { program := "ytalbbifgkninmaadoor", sum := "df9166842a9a5a5c812bca66e135b18c54b9b4ea7e681ec967b81c2eb13c197b", func := "chandlery/chandlerylaw02.BaseOrder", spec := "baseOrder", inPlace := ["internal/bytealg.IndexByteString", "internal/bytealg.IndexString", "internal/abi.NoEscape"], named := ["unicode/utf8.first", "unicode/utf8.acceptRanges", "internal/bytealg.MaxLen"], apart := false, laid := [("unicode/utf8.acceptRanges", laid_unicode_utf8_acceptRanges), ("unicode/utf8.first", laid_unicode_utf8_first)] }
def BaseOrderSaid : Prop := baseOrderRow.holds Tryd.pinned (OpenSpec.ofChange baseOrderSpec)

/-- ITS FALSE NEIGHBOUR: 'it returns false'. Refute it at one input. -/
def baseOrderWrong : ChangeSpec := { name := "baseOrder", fn := fun _ => fun
  | [d1, d2] => { results := [.lit (.bool false)], args := [d1, d2] }
  | _ => none }
def BaseOrderWrongFalsely : Prop := baseOrderRow.holds Tryd.pinned (OpenSpec.ofChange baseOrderWrong)

/-- 'chandlerylaw02.BaseNoughts': WHATEVER THE INPUT: true; the input reads as it did. -/
def baseNoughtsSpec : ChangeSpec := { name := "baseNoughts", fn := fun _ => fun
  | [d1, d2, d3, d4] => { results := [.lit (.bool true)], args := [d1, d2, d3, d4] }
  | _ => none }
def baseNoughtsRow : OpenClaim := { program := "ytalbbifgkninmaadoor", sum := "df9166842a9a5a5c812bca66e135b18c54b9b4ea7e681ec967b81c2eb13c197b", func := "chandlery/chandlerylaw02.BaseNoughts", spec := "baseNoughts", inPlace := ["internal/bytealg.IndexByteString", "internal/bytealg.IndexString", "internal/abi.NoEscape"], named := ["unicode/utf8.first", "unicode/utf8.acceptRanges", "internal/bytealg.MaxLen"], apart := false, laid := [("unicode/utf8.acceptRanges", laid_unicode_utf8_acceptRanges), ("unicode/utf8.first", laid_unicode_utf8_first)] }
def BaseNoughtsSaid : Prop := baseNoughtsRow.holds Tryd.pinned (OpenSpec.ofChange baseNoughtsSpec)

/-- ITS FALSE NEIGHBOUR: 'it returns false'. Refute it at one input. -/
def baseNoughtsWrong : ChangeSpec := { name := "baseNoughts", fn := fun _ => fun
  | [d1, d2, d3, d4] => { results := [.lit (.bool false)], args := [d1, d2, d3, d4] }
  | _ => none }
def BaseNoughtsWrongFalsely : Prop := baseNoughtsRow.holds Tryd.pinned (OpenSpec.ofChange baseNoughtsWrong)

/-- 'chandlerylaw02.BaseEncodes': WHATEVER THE INPUT: true; the input reads as it did. -/
def baseEncodesSpec : ChangeSpec := { name := "baseEncodes", fn := fun _ => fun
  | [d1, d2] => { results := [.lit (.bool true)], args := [d1, d2] }
  | _ => none }
def baseEncodesRow : OpenClaim := { program := "ytalbbifgkninmaadoor", sum := "df9166842a9a5a5c812bca66e135b18c54b9b4ea7e681ec967b81c2eb13c197b", func := "chandlery/chandlerylaw02.BaseEncodes", spec := "baseEncodes", inPlace := ["internal/bytealg.IndexByteString", "internal/bytealg.IndexString", "internal/abi.NoEscape"], named := ["unicode/utf8.first", "unicode/utf8.acceptRanges", "internal/bytealg.MaxLen"], apart := false, laid := [("unicode/utf8.acceptRanges", laid_unicode_utf8_acceptRanges), ("unicode/utf8.first", laid_unicode_utf8_first)] }
def BaseEncodesSaid : Prop := baseEncodesRow.holds Tryd.pinned (OpenSpec.ofChange baseEncodesSpec)

/-- ITS FALSE NEIGHBOUR: 'it returns false'. Refute it at one input. -/
def baseEncodesWrong : ChangeSpec := { name := "baseEncodes", fn := fun _ => fun
  | [d1, d2] => { results := [.lit (.bool false)], args := [d1, d2] }
  | _ => none }
def BaseEncodesWrongFalsely : Prop := baseEncodesRow.holds Tryd.pinned (OpenSpec.ofChange baseEncodesWrong)

/- THE SECOND FORM. 'bulk': how many values and letters a reading holds, each counted each time it is reached (what is shared counts as often as it is met; a slice's spare places count too). A statement '..UptoSaid' is the law's where the arguments, and the package variables that the reading takes, are together of bulk at most 1048576: NARROWER than '..Said'. Prove '..Said' where nothing that the law and all that it calls make is longer than what came in: it says more and counts as full. Else prove '..UptoSaid'. A law counts once. -/
mutual
def uptoBulk {H : Type} : DataW H → Nat
  | .lit (.string bytes) => bytes.length + 1
  | .lit _ => 1
  | .nil => 1
  | .ptr d => uptoBulk d + 1
  | .slice elems spare => uptoBulkAll elems + uptoBulkAll spare + 1
  | .agg parts => uptoBulkAll parts + 1
  | .iface _ d => uptoBulk d + 1
  | .map entries => uptoBulkEntries entries + 1
  | .held _ => 1
def uptoBulkAll {H : Type} : List (DataW H) → Nat
  | [] => 0
  | d :: r => uptoBulk d + uptoBulkAll r
def uptoBulkEntries {H : Type} : List (Lit × DataW H) → Nat
  | [] => 0
  | x :: r => uptoBulkEntry x + uptoBulkEntries r
def uptoBulkEntry {H : Type} : Lit × DataW H → Nat
  | (.string bytes, d) => bytes.length + uptoBulk d + 1
  | (_, d) => uptoBulk d + 1
 end
def uptoSmall : (H : Type) → List (DataW H) → Bool := fun _ ds => decide (uptoBulkAll ds ≤ 1048576)
def OpenSpec.upto (s : _root_.Go.ChangeSpec) : _root_.Go.OpenSpec := { _root_.Go.OpenSpec.ofChange s with cond := some uptoSmall }

/-- 'chandlerylaw02.BaseHex', WHERE WHAT IT READS IS OF BULK AT MOST 1048576: true; the input reads as it did. -/
def baseHexUptoRow : OpenClaim := { program := "ytalbbifgkninmaadoor", sum := "df9166842a9a5a5c812bca66e135b18c54b9b4ea7e681ec967b81c2eb13c197b", func := "chandlery/chandlerylaw02.BaseHex", spec := "baseHex", inPlace := ["internal/abi.NoEscape", "internal/bytealg.IndexByteString", "internal/bytealg.IndexString"], named := ["unicode/utf8.first", "unicode/utf8.acceptRanges", "internal/bytealg.MaxLen"], apart := false, laid := [("unicode/utf8.acceptRanges", laid_unicode_utf8_acceptRanges), ("unicode/utf8.first", laid_unicode_utf8_first)], narrowed := true }
def BaseHexUptoSaid : Prop := baseHexUptoRow.holds Tryd.pinned (OpenSpec.upto baseHexSpec)

/-- 'chandlerylaw02.BaseDecodes', WHERE WHAT IT READS IS OF BULK AT MOST 1048576: true; the input reads as it did. -/
def baseDecodesUptoRow : OpenClaim := { program := "ytalbbifgkninmaadoor", sum := "df9166842a9a5a5c812bca66e135b18c54b9b4ea7e681ec967b81c2eb13c197b", func := "chandlery/chandlerylaw02.BaseDecodes", spec := "baseDecodes", inPlace := ["internal/bytealg.IndexByteString", "internal/bytealg.IndexString", "internal/abi.NoEscape"], named := ["unicode/utf8.first", "unicode/utf8.acceptRanges", "internal/bytealg.MaxLen"], apart := false, laid := [("unicode/utf8.acceptRanges", laid_unicode_utf8_acceptRanges), ("unicode/utf8.first", laid_unicode_utf8_first)], narrowed := true }
def BaseDecodesUptoSaid : Prop := baseDecodesUptoRow.holds Tryd.pinned (OpenSpec.upto baseDecodesSpec)

/-- 'chandlerylaw02.BaseBack', WHERE WHAT IT READS IS OF BULK AT MOST 1048576: true; the input reads as it did. -/
def baseBackUptoRow : OpenClaim := { program := "ytalbbifgkninmaadoor", sum := "df9166842a9a5a5c812bca66e135b18c54b9b4ea7e681ec967b81c2eb13c197b", func := "chandlery/chandlerylaw02.BaseBack", spec := "baseBack", inPlace := ["internal/bytealg.IndexByteString", "internal/bytealg.IndexString", "internal/abi.NoEscape"], named := ["unicode/utf8.first", "unicode/utf8.acceptRanges", "internal/bytealg.MaxLen"], apart := false, laid := [("unicode/utf8.acceptRanges", laid_unicode_utf8_acceptRanges), ("unicode/utf8.first", laid_unicode_utf8_first)], narrowed := true }
def BaseBackUptoSaid : Prop := baseBackUptoRow.holds Tryd.pinned (OpenSpec.upto baseBackSpec)

/-- 'chandlerylaw02.BaseOrder', WHERE WHAT IT READS IS OF BULK AT MOST 1048576: true; the input reads as it did. -/
def baseOrderUptoRow : OpenClaim := { program := "ytalbbifgkninmaadoor", sum := "df9166842a9a5a5c812bca66e135b18c54b9b4ea7e681ec967b81c2eb13c197b", func := "chandlery/chandlerylaw02.BaseOrder", spec := "baseOrder", inPlace := ["internal/bytealg.IndexByteString", "internal/bytealg.IndexString", "internal/abi.NoEscape"], named := ["unicode/utf8.first", "unicode/utf8.acceptRanges", "internal/bytealg.MaxLen"], apart := false, laid := [("unicode/utf8.acceptRanges", laid_unicode_utf8_acceptRanges), ("unicode/utf8.first", laid_unicode_utf8_first)], narrowed := true }
def BaseOrderUptoSaid : Prop := baseOrderUptoRow.holds Tryd.pinned (OpenSpec.upto baseOrderSpec)

/-- 'chandlerylaw02.BaseNoughts', WHERE WHAT IT READS IS OF BULK AT MOST 1048576: true; the input reads as it did. -/
def baseNoughtsUptoRow : OpenClaim := { program := "ytalbbifgkninmaadoor", sum := "df9166842a9a5a5c812bca66e135b18c54b9b4ea7e681ec967b81c2eb13c197b", func := "chandlery/chandlerylaw02.BaseNoughts", spec := "baseNoughts", inPlace := ["internal/bytealg.IndexByteString", "internal/bytealg.IndexString", "internal/abi.NoEscape"], named := ["unicode/utf8.first", "unicode/utf8.acceptRanges", "internal/bytealg.MaxLen"], apart := false, laid := [("unicode/utf8.acceptRanges", laid_unicode_utf8_acceptRanges), ("unicode/utf8.first", laid_unicode_utf8_first)], narrowed := true }
def BaseNoughtsUptoSaid : Prop := baseNoughtsUptoRow.holds Tryd.pinned (OpenSpec.upto baseNoughtsSpec)

/-- 'chandlerylaw02.BaseEncodes', WHERE WHAT IT READS IS OF BULK AT MOST 1048576: true; the input reads as it did. -/
def baseEncodesUptoRow : OpenClaim := { program := "ytalbbifgkninmaadoor", sum := "df9166842a9a5a5c812bca66e135b18c54b9b4ea7e681ec967b81c2eb13c197b", func := "chandlery/chandlerylaw02.BaseEncodes", spec := "baseEncodes", inPlace := ["internal/bytealg.IndexByteString", "internal/bytealg.IndexString", "internal/abi.NoEscape"], named := ["unicode/utf8.first", "unicode/utf8.acceptRanges", "internal/bytealg.MaxLen"], apart := false, laid := [("unicode/utf8.acceptRanges", laid_unicode_utf8_acceptRanges), ("unicode/utf8.first", laid_unicode_utf8_first)], narrowed := true }
def BaseEncodesUptoSaid : Prop := baseEncodesUptoRow.holds Tryd.pinned (OpenSpec.upto baseEncodesSpec)

end Rows
end Go.Proofs.YtalbbifgkninmaaDoor
