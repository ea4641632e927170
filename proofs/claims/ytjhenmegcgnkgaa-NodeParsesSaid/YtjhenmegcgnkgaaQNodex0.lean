-- printed with xprint.py over the kit's print
import Derived.Test.YtjhenmegcgnkgaaProg
import Derived.Below
import Derived.Deep.Draws
import Derived.Deep.AppendLies
import Derived.Maps.AppendAt
import Derived.OwnWalk
import Derived.Laws.BytesArg
import Derived.Laws.MakeOwn
import Derived.Laws.OwnMore
import Derived.Deep.OwnRows
import Derived.Tactics
import Derived.Lib.ConvBytes
import Derived.Laws.Slices
import Derived.WalkKit
import Derived.KernelRfl
import Derived.RowKit3
import Derived.Deep.LoopGhost
import Derived.Deep.QuietTactic
import Derived.BigQuiet
import Derived.WideLaws
import Derived.Deep.DeepCutAuto
import Derived.Deep.CutBlock
import Derived.Deep.RegionHeld3
import Derived.Laws.Rows
import Derived.Lib.AppendStr
import Derived.ArgAppend
import Derived.Laws.IdiomCopy
import Derived.OrdersHeld
import Derived.Laws.BitsLemmas
import Derived.RowKit
import Derived.Test.YtjhenmegcgnkgaaOwn
import Derived.Test.YtjhenmegcgnkgaaPrintMore
import Derived.Test.YtjhenmegcgnkgaaNodeStr
import Derived.Test.YtjhenmegcgnkgaaNodePlace
import Derived.Test.YtjhenmegcgnkgaaNodeRefText
import Derived.Test.YtjhenmegcgnkgaaWWords
import Derived.Test.YtjhenmegcgnkgaaWLast
import Derived.Test.YtjhenmegcgnkgaaWTab
import Derived.Test.YtjhenmegcgnkgaaWFour
import Derived.Test.YtjhenmegcgnkgaaWQPut
import Derived.Test.YtjhenmegcgnkgaaWApart
import Derived.Test.YtjhenmegcgnkgaaWArr
import Derived.Test.YtjhenmegcgnkgaaWZeros
import Derived.Test.YtjhenmegcgnkgaaWFoot
import Derived.Test.YtjhenmegcgnkgaaWKept
import Derived.Test.YtjhenmegcgnkgaaWShare
import Derived.Test.YtjhenmegcgnkgaaWN
import Derived.Test.YtjhenmegcgnkgaaWFootNe
import Derived.Test.YtjhenmegcgnkgaaWAt
import Derived.Test.YtjhenmegcgnkgaaWEqStruct
import Derived.Test.YtjhenmegcgnkgaaWRepsOne
import Derived.Test.YtjhenmegcgnkgaaWInv
import Derived.Test.YtjhenmegcgnkgaaWInvWords
import Derived.Test.YtjhenmegcgnkgaaWGuard
import Derived.Test.YtjhenmegcgnkgaaWNEv
import Derived.Test.YtjhenmegcgnkgaaWMore
namespace Go.Proofs.Ytjhenmegcgnkgaa.PNode
open Go.RowKit Go.Proofs.YtjhenmegcgnkgaaW.PrintWords Go.Proofs.YtjhenmegcgnkgaaW.PrintLast Go.Proofs.YtjhenmegcgnkgaaW.PrintMore
attribute [local go_sem] max2_int min2_int max_two min_two max_three min_three max_four min_four   -- for this text's walks alone
set_option linter.unusedVariables false
set_option linter.unusedSimpArgs false
def errW : Option Int → Value
  | none => .nilIface
  | some c => .iface 0 (.int .i64 c)
theorem errW_none : errW none = .nilIface := rfl
theorem errW_some (c : Int) : errW (some c) = .iface 0 (.int .i64 c) := rfl
theorem info3 : (Try.prog.info? 3).map (fun i => (i.zero, i.size, i.bytes)) = some (some (.int .i64 0), 1, 8) := by kernel_rfl
theorem info5 : (Try.prog.info? 5).map (fun i => (i.zero, i.size, i.bytes)) = some (some (.int .u8 0), 1, 1) := by kernel_rfl
theorem info9 : (Try.prog.info? 9).map (fun i => (i.zero, i.size, i.bytes)) = some (some (.string ⟨#[]⟩), 1, 16) := by kernel_rfl
theorem info42 : (Try.prog.info? 42).map (fun i => (i.zero, i.size, i.bytes)) = some (some (.agg #[(.string ⟨#[]⟩), (.string ⟨#[]⟩)]), 2, 32) := by kernel_rfl
-- the values' own types
structure S42 where
  f0 : ByteArray
  f1 : ByteArray
def z42 : S42 := ⟨(⟨#[]⟩ : ByteArray), (⟨#[]⟩ : ByteArray)⟩
def k42 : Kd S42 := Kd.iso (Kd.pair Kd.string Kd.string) (fun x : S42 => (x.f0, x.f1))
theorem k42_open {w : World} {x : S42} {cs : List Value} (h : k42.K w x cs) : cs = [.string x.f0, .string x.f1] := by
  obtain ⟨_, _, rfl, rfl, rfl⟩ := h
  exact rfl
theorem k42_mkM (w : World) (base : Nat) (ok : Nat → Prop) (x : S42)  : k42.M w base ok x [.string x.f0, .string x.f1] := ⟨[.string x.f0], [.string x.f1], rfl, rfl, rfl⟩
def rd_T42 (xs : List S42) (i : Int) : S42 := xs.getD i.toNat z42
theorem at_T42 {w : World} {A : Option Addr} {n : Nat} {xs : List S42} (h : Kd.C k42 w A n xs) (i : Int) (h0 : 0 ≤ i) (h1 : i < n) : ∃ ad , A = some ad ∧ w.cell? (ad.add (i.toNat * 2)) = some (.string (rd_T42 xs i).f0) ∧ w.cell? ⟨(ad.add (i.toNat * 2)).block, (ad.add (i.toNat * 2)).off + 1, none⟩ = some (.string (rd_T42 xs i).f1) := by
  obtain ⟨ad, c, e, _, hK, hc0⟩ := Kd.C_get h z42 i h0 h1
  have hc : ∀ j u, c[j]? = some u → w.cell? (ad.add (i.toNat * 2 + j)) = some u := hc0
  obtain rfl := k42_open hK
  exact ⟨ad, e, hc 0 _ rfl, by rw [← add_field _ _ 1 (by omega)]; exact hc 1 _ rfl⟩
structure S26 where
  f0 : Bool
  f1 : (List S42)
  f2 : (List ByteArray)
  f3 : (List Int)
end Go.Proofs.Ytjhenmegcgnkgaa.PNode
