/- narw's writer: file, link. -/
import Derived.Test.YtlcaogiljiieaaaNarwKinds
set_option linter.unusedVariables false
set_option linter.unusedSimpArgs false
namespace Go.Proofs.YtlcaogiljiieaaaX
open Go.RowKit Go.Maps Go.Proofs.YtlcaogiljiieaaaW.PrintWords Go.Proofs.YtlcaogiljiieaaaW.PrintLast Go.Proofs.YtlcaogiljiieaaaW.PrintMore

def tRegular : ByteArray := ⟨#[114, 101, 103, 117, 108, 97, 114]⟩
def tExecutable : ByteArray := ⟨#[101, 120, 101, 99, 117, 116, 97, 98, 108, 101]⟩
def tContents : ByteArray := ⟨#[99, 111, 110, 116, 101, 110, 116, 115]⟩
def tSymlink : ByteArray := ⟨#[115, 121, 109, 108, 105, 110, 107]⟩
def tTarget : ByteArray := ⟨#[116, 97, 114, 103, 101, 116]⟩
def fileT (e : EntB) : List ByteArray := (tRegular :: (if e.exec = true then [tExecutable, ⟨#[]⟩] else [])) ++ [tContents, e.data]
def linkT (e : EntB) : List ByteArray := [tSymlink, tTarget, e.data]
/-- A step that only makes. -/
theorem wr_alloc {W : World} {b : Nat} {A : Option Addr} {n c : Nat} {i : Int} {xs : List ByteArray} (h : Wr W b A n c i xs) (o : Obj) : Wr (W.alloc o) b A n c i xs := h.below ((Below.refl _ _).alloc (Nat.le_refl _) o)
theorem stays_alloc {W0 W : World} {b : Nat} (h : Stays b W0 W) (hb : b ≤ W.heap.size) (o : Obj) : Stays b W0 (W.alloc o) := h.trans (Stays.of_below ((Below.refl _ _).alloc (Nat.le_refl _) o) hb)
theorem new_cell (W : World) (l : List Value) (t : TypeId) (j : Nat) (u : Value) (h : l[j]? = some u) : (W.alloc (.cells l.toArray t)).cell? ⟨W.heap.size, j, none⟩ = some u := by
  have hb := World.alloc_heap_new W (.cells l.toArray t)
  rw [show (W.alloc (.cells l.toArray t)).cell? ⟨W.heap.size, j, none⟩ = l.toArray[j]? from blk_cell hb j]
  simpa using h

theorem lit_cells (W : World) (ys : List ByteArray) (g : Nat) (hg : g = W.heap.size) : ∀ (j : Nat) (h : j < ys.length), (W.alloc (.cells (ys.map Value.string).toArray 9)).cell? ⟨g, j, none⟩ = some (.string ys[j]) := by
  intro j hj
  subst hg
  exact new_cell W _ _ j _ (by simp [hj])
set_option maxHeartbeats 2000000 in
set_option maxRecDepth 100000 in
theorem link_calls (W : World) (b : Nat) (A : Option Addr) (n c : Nat) (i : Int) (xs : List ByteArray) (hW : Wr W b A n c i xs) (e : EntB) (hl : xs.length ≤ 900000) :
    Calls Try.prog 72 #[.pointer (some ⟨b, 0, none⟩), entV e] W fun x W' => x = .returned (.tuple #[]) ∧ Wr W' b A n c i (xs ++ linkT e) ∧ Stays b W W' := by
  obtain ⟨ep, ek, ex, ed⟩ := e
  have HW := Aside0.mk hW
  have hlt := Aside0.mk (Nat.le_of_lt hW.lt)
  clear hW
  go_enter Try.func72, Try.ntmps72
  go_wp2_with (go_at_call 40; go_loud (refine (put_calls _ b A n c i xs [tSymlink, tTarget, ed] (wr_alloc (wr_alloc HW.out _) _) (W.heap.size + 1) 3 3 rfl ?hc ?hl).mono ?_); (case hc => exact lit_cells _ [tSymlink, tTarget, ed] _ (by simp)); (case hl => simp; omega); rintro x W9 ⟨rfl, h9, s9⟩; have H9 := Aside0.mk h9; have S9 := Aside0.mk s9; clear h9 s9)
  go_end0
  exact ⟨rfl, H9.out, (stays_alloc (stays_alloc (Stays.refl b W) hlt.out _) (by simp; have := hlt.out; omega) _).trans S9.out⟩
set_option maxHeartbeats 2000000 in
set_option maxRecDepth 100000 in
theorem file_calls (W : World) (b : Nat) (A : Option Addr) (n c : Nat) (i : Int) (xs : List ByteArray) (hW : Wr W b A n c i xs) (e : EntB) (hl : xs.length ≤ 900000) :
    Calls Try.prog 70 #[.pointer (some ⟨b, 0, none⟩), entV e] W fun x W' => x = .returned (.tuple #[]) ∧ Wr W' b A n c i (xs ++ fileT e) ∧ Stays b W W' := by
  obtain ⟨ep, ek, ex, ed⟩ := e
  have HW := Aside0.mk hW
  have hlt := Aside0.mk (Nat.le_of_lt hW.lt)
  have hbk := Aside0.mk hW.lt
  clear hW
  cases ex
  · go_enter Try.func70, Try.ntmps70
    go_wp2_with (go_at_call 40; first
      | (refine (put_calls _ b A n c i xs [tRegular] (wr_alloc (wr_alloc HW.out _) _) (W.heap.size + 1) 1 1 rfl ?hc ?hl).mono ?_; (case hc => exact lit_cells _ [tRegular] _ (by simp)); (case hl => simp; omega); rintro x W1 ⟨rfl, h9, s9⟩; have H1 := Aside0.mk h9; have S1 := Aside0.mk ((stays_alloc (stays_alloc (Stays.refl b W) hlt.out _) (by simp; have := hlt.out; omega) _).trans s9); have B1 := s9.same W.heap.size (.cells #[.string ep, .int .i64 ek, .bool false, .string ed] 27) ((Below.heap_alloc _ _ _ (by simp)).trans (World.alloc_heap_new W _)) (by have := hbk.out; omega) (by intro cs h; cases h); have x2 : W1.cell? ⟨W.heap.size, 2, none⟩ = some (.bool false) := (blk_cell B1 2).trans rfl; have x3 : W1.cell? ⟨W.heap.size, 3, none⟩ = some (.string ed) := (blk_cell B1 3).trans rfl; clear h9 s9 B1 HW)
      | (refine (put_calls _ b A n c i (xs ++ [tRegular]) [tContents, ed] (wr_alloc H1.out _) W1.heap.size 2 2 rfl ?hc ?hl).mono ?_; (case hc => exact lit_cells _ [tContents, ed] _ rfl); (case hl => simp; omega); rintro x W2 ⟨rfl, h9, s9⟩; have H2 := Aside0.mk h9; have S2 := Aside0.mk ((stays_alloc S1.out (Nat.le_of_lt H1.out.lt) _).trans s9); clear h9 s9))
    go_end0
    exact ⟨rfl, by simpa [fileT] using H2.out, S2.out⟩
  · go_enter Try.func70, Try.ntmps70
    go_wp2_with (go_at_call 40; first
      | (refine (put_calls _ b A n c i xs [tRegular] (wr_alloc (wr_alloc HW.out _) _) (W.heap.size + 1) 1 1 rfl ?hc ?hl).mono ?_; (case hc => exact lit_cells _ [tRegular] _ (by simp)); (case hl => simp; omega); rintro x W1 ⟨rfl, h9, s9⟩; have H1 := Aside0.mk h9; have S1 := Aside0.mk ((stays_alloc (stays_alloc (Stays.refl b W) hlt.out _) (by simp; have := hlt.out; omega) _).trans s9); have B1 := Aside0.mk (s9.same W.heap.size (.cells #[.string ep, .int .i64 ek, .bool true, .string ed] 27) ((Below.heap_alloc _ _ _ (by simp)).trans (World.alloc_heap_new W _)) (by have := hbk.out; omega) (by intro cs h; cases h)); have x2 : W1.cell? ⟨W.heap.size, 2, none⟩ = some (.bool true) := (blk_cell B1.out 2).trans rfl; clear h9 s9 HW)
      | (refine (put_calls _ b A n c i (xs ++ [tRegular]) [tExecutable, ⟨#[]⟩] (wr_alloc H1.out _) W1.heap.size 2 2 rfl ?hc ?hl).mono ?_; (case hc => exact lit_cells _ [tExecutable, ⟨#[]⟩] _ rfl); (case hl => simp; omega); rintro x W3 ⟨rfl, h9, s9⟩; have H3 := Aside0.mk h9; have S3 := Aside0.mk ((stays_alloc S1.out (Nat.le_of_lt H1.out.lt) _).trans s9); have B3 := s9.same W.heap.size _ ((Below.heap_alloc _ _ _ (Array.getElem?_eq_some_iff.1 B1.out).1).trans B1.out) (by have := hbk.out; omega) (by intro cs h; cases h); have x3 : W3.cell? ⟨W.heap.size, 3, none⟩ = some (.string ed) := (blk_cell B3 3).trans rfl; clear h9 s9 B3 H1)
      | (refine (put_calls _ b A n c i (xs ++ [tRegular] ++ [tExecutable, ⟨#[]⟩]) [tContents, ed] (wr_alloc H3.out _) W3.heap.size 2 2 rfl ?hc ?hl).mono ?_; (case hc => exact lit_cells _ [tContents, ed] _ rfl); (case hl => simp; omega); rintro x W2 ⟨rfl, h9, s9⟩; have H2 := Aside0.mk h9; have S2 := Aside0.mk ((stays_alloc S3.out (Nat.le_of_lt H3.out.lt) _).trans s9); clear h9 s9))
    go_end0
    exact ⟨rfl, by simpa [fileT] using H2.out, S2.out⟩
end Go.Proofs.YtlcaogiljiieaaaX
