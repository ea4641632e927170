/- narw.Texts: the walk, over what Check answers and what node adds. slices.Clone of bytes. -/
import Derived.Test.YtlcaogiljiieaaaNarwPut
set_option linter.unusedVariables false
set_option linter.unusedSimpArgs false
namespace Go.Proofs.YtlcaogiljiieaaaX
open Go.RowKit Go.Maps Go.Proofs.YtlcaogiljiieaaaW.PrintWords Go.Proofs.YtlcaogiljiieaaaW.PrintLast Go.Proofs.YtlcaogiljiieaaaW.PrintMore
def tMagic : ByteArray := ⟨#[110, 105, 120, 45, 97, 114, 99, 104, 105, 118, 101, 45, 49]⟩
def CheckIs (w : World) (A : Option Addr) (n c : Nat) (r : Int) : Prop := ∀ W, Below w.heap.size w W → Calls Try.prog 30 #[.slice A n c] W fun x w' => x = .returned (.int .i64 r) ∧ Below W.heap.size W w'
def NodeIs (w : World) (A : Option Addr) (n c : Nat) (T : List ByteArray) : Prop := ∀ W b, Wr W b A n c 0 [tMagic] → Below w.heap.size w W → w.heap.size ≤ b → ∃ i2, Calls Try.prog 41 #[.pointer (some ⟨b, 0, none⟩)] W fun x W' => x = .returned (.tuple #[]) ∧ Wr W' b A n c i2 ([tMagic] ++ T) ∧ Stays b W W'
theorem lit_cells2 (W : World) (ys : List ByteArray) (g : Nat) (hg : g = W.heap.size) : ∀ (j : Nat) (h : j < ys.length), (W.alloc (.cells (ys.map Value.string).toArray 9)).cell? ⟨g, j, none⟩ = some (.string ys[j]) := by
  intro j hj
  subst hg
  have hb := World.alloc_heap_new W (.cells (ys.map Value.string).toArray 9)
  rw [show (W.alloc (.cells (ys.map Value.string).toArray 9)).cell? ⟨W.heap.size, j, none⟩ = (ys.map Value.string).toArray[j]? from blk_cell hb j]
  simp [hj]
set_option maxHeartbeats 1000000 in
set_option maxRecDepth 100000 in
theorem texts_bad (A : Option Addr) (n c : Nat) (w : World) (r : Int) (hr : r ≠ 0) (hc : CheckIs w A n c r) :
    Calls Try.prog 15 #[.slice A n c] w fun x W' => x = .returned (.tuple #[.slice none 0 0, .int .i64 r]) ∧ Below w.heap.size w W' := by
  have hz : (r != 0) = true := bne_iff_ne.2 hr
  have HC := Aside0.mk hc
  clear hc
  go_enter Try.func15, Try.ntmps15
  go_wp2_with (go_at_call 30; refine (HC.out _ (Below.refl _ _)).mono ?_; rintro x W1 ⟨rfl, h1⟩)
  go_ret2
  exact ⟨rfl, h1⟩
set_option maxHeartbeats 2000000 in
set_option maxRecDepth 100000 in
theorem texts_ok (A : Option Addr) (n c : Nat) (w : World) (hc : CheckIs w A n c 0) (T : List ByteArray) (hT : NodeIs w A n c T) :
    Calls Try.prog 15 #[.slice A n c] w fun x W' => ∃ v, x = .returned (.tuple #[v, .int .i64 0]) ∧ Kd.R Kd.string 9 W' w.heap.size (fun _ => True) v ([tMagic] ++ T) ∧ Below w.heap.size w W' := by
  have HC := Aside0.mk hc
  have HT := Aside0.mk hT
  clear hc hT
  go_enter Try.func15, Try.ntmps15
  go_wp2_with (first
    | (go_at_call 30; refine (HC.out _ (Below.refl _ _)).mono ?_; rintro x W1 ⟨rfl, h1⟩; have B1 := Aside0.mk h1; have hwr : Wr (W1.alloc (.cells #[.slice A n c, .int .i64 0, .slice none 0 0] 60)) W1.heap.size A n c 0 [] := ⟨_, World.alloc_heap_new W1 _, World.ownsRow_nil _ _ _ _⟩; have HW := Aside0.mk hwr; clear h1 hwr)
    | (go_at_call 40; go_loud (refine (put_calls _ W1.heap.size A n c 0 [] [tMagic] (HW.out.below ((Below.refl _ _).alloc (Nat.le_refl _) _)) (W1.heap.size + 1) 1 1 rfl ?hc ?hl).mono ?_); (case hc => exact lit_cells2 _ [tMagic] _ (by simp)); (case hl => simp); rintro x W2 ⟨rfl, h9, s9⟩; have H2 := Aside0.mk h9; have S2 := Aside0.mk ((Stays.of_below (W' := (W1.alloc (.cells #[.slice A n c, .int .i64 0, .slice none 0 0] 60)).alloc (.cells #[.string tMagic] 9)) (((Below.refl _ W1).alloc (Nat.le_refl _) _).alloc (by simp) _) (Nat.le_refl _)).trans s9); clear h9 s9)
    | (go_at_call 41; obtain ⟨i2, hno⟩ := HT.out W2 W1.heap.size H2.out (B1.out.trans (S2.out.below.mono B1.out.size)) B1.out.size; refine hno.mono ?_; clear hno; rintro x W3 ⟨rfl, h9, s9⟩; have H3 := Aside0.mk h9; have S3 := Aside0.mk (S2.out.trans s9); obtain ⟨v3, b3, o3⟩ := h9.blk; obtain ⟨A3, n3, k3, rfl⟩ := own_slice o3; have c3 : W3.cell? ⟨W1.heap.size, 2, none⟩ = some (.slice A3 n3 k3) := (blk_cell b3 2).trans rfl; have O3 := Aside0.mk o3; clear s9 h9 b3 o3))
  go_ret2
  exact ⟨_, rfl, Kd.R_of_own (own_weaken O3.out B1.out.size) (fun _ _ => trivial), B1.out.trans (S3.out.below.mono B1.out.size)⟩
end Go.Proofs.YtlcaogiljiieaaaX
