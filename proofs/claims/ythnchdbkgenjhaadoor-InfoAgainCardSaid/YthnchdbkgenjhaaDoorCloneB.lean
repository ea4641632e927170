import Derived.Test.YthnchdbkgenjhaaDoorProg
import Derived.WalkKit
import Derived.Laws.Strings
import Derived.Test.YthnchdbkgenjhaaDoorShelf
import Derived.Test.YthnchdbkgenjhaaDoorWMore
import Derived.Test.YthnchdbkgenjhaaDoorEvFind
set_option linter.unusedVariables false
set_option linter.unusedSimpArgs false
/- Texts held against each other by >=, <= and >. -/
namespace Go.Proofs.YthnchdbkgenjhaaDoorX
end Go.Proofs.YthnchdbkgenjhaaDoorX
/- slices.Clone of bytes: the walk. -/
namespace Go.Proofs.YthnchdbkgenjhaaDoorX
open Go.RowKit Go.Proofs.YthnchdbkgenjhaaDoorW.PrintWords Go.Proofs.YthnchdbkgenjhaaDoorW.PrintLast Go.Proofs.YthnchdbkgenjhaaDoorW.PrintMore
theorem infoU8 : (Tryd.prog.info? 5).map (fun i => (i.zero, i.size, i.bytes)) = some (some (.int .u8 0), 1, 1) := by kernel_rfl
theorem eq_nil0 (m c : Nat) (w : World) : (binOp .eql 30 (.slice none m c) (.slice none 0 0)).run Tryd.prog w = .ok (.bool true) w := by kernel_rfl
theorem eq_nil1 (a : Addr) (m c : Nat) (w : World) : (binOp .eql 30 (.slice (some a) m c) (.slice none 0 0)).run Tryd.prog w = .ok (.bool false) w := by kernel_rfl
set_option maxHeartbeats 1000000 in
set_option maxRecDepth 100000 in
theorem clone_calls (A : Option Addr) (c : Nat) (l : List Int) (w : World) (hC : Kd.C (Kd.int .u8) w A l.length l) (hc : l.length ≤ c) (hl : l.length ≤ 1000000) :
    Calls Tryd.prog 46 #[.slice A l.length c] w fun e w' => ∃ v, e = .returned v ∧ Kd.R (Kd.int .u8) 5 w' w.heap.size (fun _ => True) v l ∧ Below w.heap.size w w' := by
  cases A with
  | none =>
    have h0 : l = [] := by
      cases l with
      | nil => rfl
      | cons a l =>
        obtain ⟨ad, h, _⟩ := hC.2.2 (by simp)
        cases h
    subst h0
    show Calls Tryd.prog 46 #[.slice none 0 c] w _
    have hq0 := eq_nil0
    have hq1 := eq_nil1
    go_enter Tryd.func46, Tryd.ntmps46
    go_wp2
    go_ret
    exact ⟨_, rfl, Kd.R_nil _ _ _ _ _, Below.refl _ _⟩
  | some ad =>
    obtain ⟨i0, hi0, hz0, hz1, hz2⟩ := info_parts infoU8
    have HO := Aside0.mk (show (w.alloc (.cells #[] 5)).ownsRow w.heap.size 5 1 (.slice (some ⟨w.heap.size, 0, none⟩) 0 0) 0 [] from ⟨rfl, .inr ⟨w.heap.size, 0, #[], rfl, Nat.le_refl _, heap_alloc_new w _, Nat.le_refl _, by decide, rfl, rfl⟩⟩)
    have HN := Aside0.mk (show ∀ j u, (l.map (Value.int .u8))[j]? = some u → (w.alloc (.cells #[] 5)).cell? (ad.add j) = some u from fun j u hu => by
      rw [List.getElem?_map] at hu
      obtain ⟨y, hy, rfl⟩ := Option.map_eq_some_iff.1 hu
      have hj : j < l.length := (List.getElem?_eq_some_iff.1 hy).1
      obtain ⟨ad', e, hcc⟩ := hC.2.2 (by omega)
      injection e with e
      subst e
      obtain ⟨cs, hcl, hcs, hcell⟩ := hcc j y hy
      have hcs' : cs = [Value.int .u8 y] := hcs
      subst hcs'
      have h1 := hcell 0 _ rfl
      have h2 : w.cell? (ad.add j) = some (.int .u8 y) := by simpa [Kd.int, Kd.scalar] using h1
      exact (((Below.refl _ w).alloc (Nat.le_refl _) _).cell (World.block_lt_of_cell? w _ h2)).trans h2)
    have hq0 := eq_nil0
    have hq1 := eq_nil1
    go_enter Tryd.func46, Tryd.ntmps46
    go_wp2_with (at_builtin; go_loud (refine wpList_append_own_at _ rfl _ _ 30 rfl w.heap.size 5 i0 (.int .u8 0) 1 1 Tryd.underlying30 hi0 hz0 hz1 hz2 rfl (by decide) (.slice (some ⟨w.heap.size, 0, none⟩) 0 0) 0 [] rfl HO.out ad l.length c (l.map (Value.int .u8)) rfl ?ab ?ac ?ad ?ae ?af ?ag ?_); (case ab => simp); (case ac => exact HN.out); (case ad => intro u hu; obtain ⟨y, _, rfl⟩ := List.mem_map.1 hu; rfl); (case ae => unfold maxLen; omega); (case af => omega); (case ag => simp); intro v' w1 hown hg hnil hat; have O1 := Aside0.mk hown; have G1 := Aside0.mk hg; clear hown hg hnil hat)
    go_ret
    refine ⟨_, rfl, Kd.R_of_own ?_ (fun _ _ => trivial), ((Below.refl _ w).alloc (Nat.le_refl _) _).grown G1.out (by simp) (fun k e => ?_)⟩
    · have h := O1.out
      rw [Nat.zero_add, List.nil_append] at h
      exact h
    · have : k = w.heap.size := by simpa [Value.ownBlock] using e.symm
      omega
end Go.Proofs.YthnchdbkgenjhaaDoorX
