/- A scanner in memory: its map told as a table, its rest, what it has found; what keeps it: plain words, no walk. -/
import Derived.Test.YtkmnjekbacdfoaaScanNew
set_option linter.unusedVariables false
set_option linter.unusedSimpArgs false
namespace Go.Proofs.YtkmnjekbacdfoaaX
open Go.RowKit Go.Maps Go.Proofs.YtkmnjekbacdfoaaW.PrintWords

/-- The map in block B, to be read: at the digits d a row of texts in blocks between B + 2 and top. -/
structure Tab (W : World) (B top : Nat) (l : List ByteArray) : Prop where
  look : ∀ d : ByteArray, d.size ≤ 1000 → ∃ A c, (groupsOf l d).length ≤ c ∧ Kd.C Kd.string W A (groupsOf l d).length (groupsOf l d) ∧ (∀ ad, A = some ad → B + 2 ≤ ad.block ∧ ad.block < top) ∧
    ∀ W' : World, W'.heap[B]? = W.heap[B]? → (Instr.lookup 42 (.map (some B)) (.string d) true).run Try.prog W' = .ok (.tuple #[.slice A (groupsOf l d).length c, .bool (decide (groupsOf l d ≠ []))]) W'
  lt : B + 1 < top
theorem C_block {α : Type} {d : Kd α} {W W' : World} {A : Option Addr} {n : Nat} {xs : List α} (h : d.C W A n xs) (hk : ∀ x cs, d.K W x cs → d.K W' x cs) (hb : ∀ ad, A = some ad → W'.heap[ad.block]? = W.heap[ad.block]?) : d.C W' A n xs := by
  refine ⟨h.1, h.2.1, fun hn => ?_⟩
  obtain ⟨ad, e, hc⟩ := h.2.2 hn
  refine ⟨ad, e, fun j p hj => ?_⟩
  obtain ⟨c, h1, h2, h3⟩ := hc j p hj
  refine ⟨c, h1, hk _ _ h2, fun i u hi => ?_⟩
  have h4 := h3 i u hi
  rw [← h4]
  refine World.cell?_of_block (a := ad.add (j * d.sz + i)) ?_
  rw [show (ad.add (j * d.sz + i)).block = ad.block by unfold Addr.add; split <;> rfl]
  exact hb ad e
theorem Tab.kept {W W' : World} {B top : Nat} {l : List ByteArray} (h : Tab W B top l) (hb : ∀ k, k < top → k ≠ B + 1 → W'.heap[k]? = W.heap[k]?) : Tab W' B top l := by
  refine ⟨fun d hd => ?_, h.lt⟩
  obtain ⟨A, c, h0, h1, h2, h3⟩ := h.look d hd
  refine ⟨A, c, h0, C_block h1 (fun _ _ h => h) (fun ad e => hb _ (h2 ad e).2 (by have := (h2 ad e).1; omega)), h2, fun W1 h4 => h3 W1 (h4.trans (hb B (by have := h.lt; omega) (by omega)))⟩
theorem Scn.tab {W : World} {B n : Nat} {l : List ByteArray} {r f : Value} (h : Scn W B n l r f) (hn : n ≤ 1000000) : Tab W B W.heap.size l := by
  refine ⟨fun d hd => ?_, (Array.getElem?_eq_some_iff.1 h.blk).1⟩
  obtain ⟨v, ho, _, hr, _⟩ := h.grp.look d hd hn
  have hR : Kd.R Kd.string 9 W (B + 2) (fun _ => True) v (groupsOf l d) := Kd.R_of_own (enc := Value.string) (by simpa [encs] using ho) (fun _ _ => trivial)
  obtain ⟨A, c, rfl, hl, hC⟩ := Kd.R_reads hR
  refine ⟨A, c, hl, hC, fun ad e => ?_, fun W' hW => by simpa using hr true W' hW⟩
  subst e
  exact ⟨Kd.R_base hR ad.block rfl, Kd.R_lt hR ad.block rfl⟩
/-- The bytes that are kept: from rlo on, in a block of bytes. -/
def RstOK (W : World) (rlo : Nat) (v : Value) (rs : List Int) : Prop :=
  ∃ A c, v = .slice A rs.length c ∧ rs.length ≤ c ∧ Kd.C (Kd.int .u8) W A rs.length rs ∧ ∀ ad, A = some ad → rlo ≤ ad.block ∧ ∃ cur, W.heap[ad.block]? = some (.cells cur 5 (0, 0))
structure Sc (W : World) (B top rlo : Nat) (l : List ByteArray) (rs : List Int) (fs : List ByteArray) : Prop where
  ex : ∃ rv fv, W.heap[B + 1]? = some (.cells #[.map (some B), rv, fv] 44 (0, 0)) ∧ RstOK W rlo rv rs ∧ Kd.R Kd.string 9 W top (fun _ => True) fv fs
  tab : Tab W B top l
  le : top ≤ W.heap.size
theorem Scn.sc {W : World} {B n : Nat} {l : List ByteArray} (h : Scn W B n l (.slice none 0 0) (.slice none 0 0)) (hn : n ≤ 1000000) (rlo : Nat) : Sc W B W.heap.size rlo l [] [] :=
  ⟨⟨_, _, h.blk, ⟨none, 0, rfl, Nat.le_refl _, Kd.C_nil _ _, fun ad e => by cases e⟩, Kd.R_nil _ _ _ _ _⟩, h.tab hn, Nat.le_refl _⟩
/-- What the scanner's calls keep: all below top but the scanner's own block; each block of other things than texts and scanners. -/
structure Kept1 (B top : Nat) (w W : World) : Prop where
  os : W.os = w.os
  tape : W.tape = w.tape
  output : W.output = w.output
  size : w.heap.size ≤ W.heap.size
  low : ∀ k, k < top → k ≠ B + 1 → W.heap[k]? = w.heap[k]?
  typed : ∀ k cur t, w.heap[k]? = some (.cells cur t (0, 0)) → t ≠ 9 → k ≠ B + 1 → W.heap[k]? = w.heap[k]?
theorem Kept1.refl (B top : Nat) (w : World) : Kept1 B top w w := ⟨rfl, rfl, rfl, Nat.le_refl _, fun _ _ _ => rfl, fun _ _ _ _ _ _ => rfl⟩
theorem Kept1.trans {B top : Nat} {a b c : World} (h : Kept1 B top a b) (k : Kept1 B top b c) : Kept1 B top a c :=
  ⟨k.os.trans h.os, k.tape.trans h.tape, k.output.trans h.output, Nat.le_trans h.size k.size, fun i h1 h2 => (k.low i h1 h2).trans (h.low i h1 h2),
    fun i cur t h1 h2 h3 => (k.typed i cur t ((h.typed i cur t h1 h2 h3).trans h1) h2 h3).trans (h.typed i cur t h1 h2 h3)⟩
theorem Kept1.of_below {B top : Nat} {a b : World} (h : Below a.heap.size a b) (ht : top ≤ a.heap.size) : Kept1 B top a b :=
  ⟨h.os, h.tape, h.output, h.size, fun k h1 _ => h.block k (by omega), fun k cur t h1 _ _ => h.block k (blk_lt h1)⟩
theorem Kept1.set {B top : Nat} (a : World) (i : Nat) (u : Value) : Kept1 B top a (a.setCell ⟨B + 1, i, none⟩ u) := by
  have h : ∀ k, k ≠ B + 1 → (a.setCell ⟨B + 1, i, none⟩ u).heap[k]? = a.heap[k]? := fun k hk => by
    simp [World.setCell, Array.getElem?_modify, Ne.symm hk]
  exact ⟨rfl, rfl, rfl, by simp [World.setCell], fun k _ h2 => h k h2, fun k _ _ _ _ h3 => h k h3⟩
theorem Kept1.grown {B top : Nat} {a b : World} {fv : Value} {fs : List ByteArray} {ok : Nat → Prop} (hf : Kd.R Kd.string 9 a top ok fv fs) (h : a.grownBy b fv.ownBlock) (ht : top ≤ a.heap.size) : Kept1 B top a b := by
  refine ⟨h.os, h.tape, h.output, h.size, fun k h1 _ => h.block k (by omega) fun e => ?_, fun k cur t h1 h2 _ => h.block k (blk_lt h1) fun e => ?_⟩
  · have := Kd.R_base hf k e.symm
    omega
  · obtain ⟨inner, ho⟩ := Kd.R_own hf
    obtain ⟨cells, hc⟩ := own_typed ho k e.symm
    rw [h1] at hc
    injection hc with hc
    injection hc with _ hc
    exact h2 hc
theorem Kept1.below {B top lo : Nat} {a b : World} (h : Kept1 B top a b) (h1 : lo ≤ B) (h2 : lo ≤ top) : Below lo a b := ⟨h.os, h.tape, h.output, h.size, fun k hk => h.low k (by omega) (by omega)⟩
theorem RstOK.kept {W W' : World} {rlo : Nat} {v : Value} {rs : List Int} (h : RstOK W rlo v rs) (hb : ∀ k cur, W.heap[k]? = some (.cells cur 5 (0, 0)) → rlo ≤ k → W'.heap[k]? = W.heap[k]?) : RstOK W' rlo v rs := by
  obtain ⟨A, c, e, hl, hC, hA⟩ := h
  refine ⟨A, c, e, hl, C_block hC (fun _ _ h => h) (fun ad e => ?_), fun ad e => ?_⟩
  · obtain ⟨h1, cur, h2⟩ := hA ad e
    exact hb _ cur h2 h1
  · obtain ⟨h1, cur, h2⟩ := hA ad e
    exact ⟨h1, cur, (hb _ cur h2 h1).trans h2⟩
theorem Sc.below {W W' : World} {B top rlo : Nat} {l : List ByteArray} {rs : List Int} {fs : List ByteArray} (h : Sc W B top rlo l rs fs) (hb : Below W.heap.size W W') : Sc W' B top rlo l rs fs := by
  obtain ⟨⟨rv, fv, h1, h2, h3⟩, h4, h5⟩ := h
  exact ⟨⟨rv, fv, blk_below h1 hb, h2.kept (fun k cur hk _ => hb.block k (blk_lt hk)), Kd.R_below h3 hb⟩, h4.kept (fun k hk _ => hb.block k (by omega)), Nat.le_trans h5 hb.size⟩
/-- A block of bytes that is older than the rest may be written. -/
theorem Sc.other {W W' : World} {B top rlo : Nat} {l : List ByteArray} {rs : List Int} {fs : List ByteArray} (h : Sc W B top rlo l rs fs) (g : Nat) (hg : top ≤ g ∧ g < rlo) (ht : ∃ cur t, W.heap[g]? = some (.cells cur t (0, 0)) ∧ t ≠ 9) (hs : W.heap.size ≤ W'.heap.size)
    (hb : ∀ k, k < W.heap.size → k ≠ g → W'.heap[k]? = W.heap[k]?) : Sc W' B top rlo l rs fs := by
  obtain ⟨⟨rv, fv, h1, h2, h3⟩, h4, h5⟩ := h
  have := h4.lt
  refine ⟨⟨rv, fv, (hb _ (blk_lt h1) (by omega)).trans h1, h2.kept (fun k cur hk hr => hb k (blk_lt hk) (by omega)), ?_⟩, h4.kept (fun k hk _ => hb k (by omega) (by omega)), Nat.le_trans h5 hs⟩
  refine Kd.R_mono (Kd.R_move (Kd.R_bound h3) fun k hk => hb k hk.2.2.1 ?_) (fun _ _ => trivial)
  rintro rfl
  obtain ⟨cur, t, ht, h9⟩ := ht
  obtain ⟨_, _, _, q, hq, cells, hc⟩ := hk
  rw [ht] at hc
  injection hc with hc
  injection hc with _ hc
  refine h9 (hc.trans ?_)
  simpa [Kd.string, Kd.scalar] using hq
/-- The digits at a place. -/
def cutAt (all : List Int) (i : Nat) : ByteArray := strOfNums ((all.take (i + 32)).drop i)
/-- What the places ahead of n hit. -/
def hits (l : List ByteArray) (all : List Int) (n : Nat) : List ByteArray := (List.range n).flatMap fun i => groupsOf l (cutAt all i)
theorem hits_succ (l : List ByteArray) (all : List Int) (n : Nat) : hits l all (n + 1) = hits l all n ++ groupsOf l (cutAt all n) := by
  unfold hits
  rw [List.range_succ, List.flatMap_append, List.flatMap_cons, List.flatMap_nil, List.append_nil]
end Go.Proofs.YtkmnjekbacdfoaaX
