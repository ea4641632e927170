/- What stays while a scanner is written to, bytes are gathered, and a row is written over: plain words, no walk. And: bytes that come in parts are found as all. -/
import Derived.Test.YtkmnjekbacdfoaaScanRefFind
set_option linter.unusedVariables false
set_option linter.unusedSimpArgs false
namespace Go.Proofs.YtkmnjekbacdfoaaX
open Go.RowKit Go.Maps Go.Proofs.YtkmnjekbacdfoaaW.PrintWords Go.Proofs.YtkmnjekbacdfoaaW.PrintLast Go.Proofs.YtkmnjekbacdfoaaW.PrintMore

theorem keep5 {W W' : World} {B top base : Nat} {v : Value} {xs : List Int} (h : Kd.R (Kd.int .u8) 5 W base (fun _ => True) v xs) (hk : Kept1 B top W W') (hb : B + 1 < base) : Kd.R (Kd.int .u8) 5 W' base (fun _ => True) v xs := by
  refine Kd.R_mono (Kd.R_move (Kd.R_bound h) fun j hj => ?_) (fun _ _ => trivial)
  obtain ⟨-, hj1, -, q, hq, cells, hc⟩ := hj
  have hq5 : q = 5 := by simpa [Kd.int, Kd.scalar] using hq
  subst hq5
  exact hk.typed j cells 5 hc (by decide) (by omega)
/-- Another row of the call's own grows. -/
theorem keepRow {W W' : World} {base : Nat} {v u : Value} {xs : List Int} (h : Kd.R (Kd.int .u8) 5 W base (fun _ => True) v xs) (hg : W.grownBy W' u.ownBlock) (hne : ∀ g, u.ownBlock = some g → v.ownBlock ≠ some g) : Kd.R (Kd.int .u8) 5 W' base (fun _ => True) v xs := by
  have h2 : Kd.R (Kd.int .u8) 5 W base (fun k => v.ownBlock = some k ∧ k < W.heap.size) v xs := Kd.R_of_own (Kd.own_of_R h) (fun k hk => ⟨hk, Kd.R_lt h k hk⟩)
  refine Kd.R_mono (Kd.R_move h2 fun j hj => ?_) (fun _ _ => trivial)
  refine hg.block j hj.2 fun e => ?_
  exact hne j e.symm hj.1
theorem sc_grown {W W' : World} {B top rlo : Nat} {l : List ByteArray} {rs : List Int} {fs : List ByteArray} {base : Nat} {v : Value} {xs : List Int} (hS : Sc W B top rlo l rs fs) (hR : Kd.R (Kd.int .u8) 5 W base (fun _ => True) v xs) (hb : top ≤ base) (hlt : ∀ g, v.ownBlock = some g → g < rlo) (hg : W.grownBy W' v.ownBlock) : Sc W' B top rlo l rs fs := by
  cases ho : v.ownBlock with
  | none =>
    rw [ho] at hg
    exact hS.below ⟨hg.os, hg.tape, hg.output, hg.size, fun k hk => hg.block k hk (by simp)⟩
  | some g =>
    rw [ho] at hg
    obtain ⟨inner, hown⟩ := Kd.R_own hR
    obtain ⟨cells, hc⟩ := own_typed hown g ho
    refine hS.other g ⟨Nat.le_trans hb (Kd.R_base hR g ho), hlt g ho⟩ ⟨cells, 5, hc, by decide⟩ hg.size (fun k hk hne => hg.block k hk (fun e => hne (by injection e)))
theorem grown_below {W W' : World} {B : Nat} {row : Option Nat} (hg : W.grownBy W' row) (hB : B ≤ W.heap.size) (hr : ∀ g, row = some g → B ≤ g) : Below B W W' :=
  ⟨hg.os, hg.tape, hg.output, hg.size, fun k hk => hg.block k (by omega) (fun e => by have := hr k e.symm; omega)⟩
theorem grown_trans {a b c : World} {row : Option Nat} (h : a.grownBy b row) (k : b.grownBy c row) : a.grownBy c row :=
  ⟨k.os.trans h.os, k.tape.trans h.tape, k.output.trans h.output, Nat.le_trans h.size k.size, fun i hi hne => (k.block i (Nat.lt_of_lt_of_le hi h.size) hne).trans (h.block i hi hne)⟩
/-- The element of a row of rows. -/
theorem at_rows {w : World} {A : Option Addr} {n : Nat} {xs : List (List Int)} (h : Kd.C (Kd.slice 5 (Kd.int .u8)) w A n xs) (i : Nat) (hi : i < xs.length) : ∃ ad A0 c0, A = some ad ∧ w.cell? (ad.add i) = some (.slice A0 xs[i].length c0) ∧ xs[i].length ≤ c0 ∧ Kd.C (Kd.int .u8) w A0 xs[i].length xs[i] := by
  obtain ⟨h1, h2, h3⟩ := h
  obtain ⟨ad, e, hc⟩ := h3 (by omega)
  obtain ⟨c, hl, ⟨A0, c0, rfl, hle, hC⟩, hat⟩ := hc i xs[i] (List.getElem?_eq_getElem hi)
  refine ⟨ad, A0, c0, e, ?_, hle, hC⟩
  have := hat 0 _ rfl
  simpa [Kd.slice] using this
/-! ### bytes that come in parts -/
theorem cutAt_take (a b : List Int) (i : Nat) (hi : i + 32 ≤ a.length) : cutAt (a ++ b) i = cutAt a i := by
  unfold cutAt
  rw [List.take_append_of_le_length hi]
theorem cutAt_drop (a : List Int) (d i : Nat) (hd : d ≤ a.length) : cutAt (a.drop d) i = cutAt a (d + i) := by
  unfold cutAt
  congr 1
  rw [List.take_drop, List.drop_drop, show d + (i + 32) = d + i + 32 by omega]
theorem rest_eq (a b : List Int) : a.drop (a.length - 31) ++ b = (a ++ b).drop (a.length - 31) := by
  rw [List.drop_append_of_le_length (by omega)]
theorem rest_next (a b : List Int) : (a.drop (a.length - 31) ++ b).drop ((a.drop (a.length - 31)).length + b.length - 31) = (a ++ b).drop ((a ++ b).length - 31) := by
  rw [rest_eq, List.drop_drop, List.length_drop, List.length_append]
  congr 1
  omega
theorem parts_found (l : List ByteArray) (a b : List Int) : foundB (findB a l ++ hits l (a.drop (a.length - 31) ++ b) ((a.drop (a.length - 31)).length + b.length - 31)) = findB (a ++ b) l := by
  refine rise_ext bB_ord (foundB_rise _) (find_rise _ _) fun x => ?_
  rw [foundB_mem, List.mem_append, mem_find, mem_find, mem_hits]
  have hlen : (a.drop (a.length - 31)).length = a.length - (a.length - 31) := List.length_drop
  constructor
  · rintro (⟨h1, i, hi, h2⟩ | ⟨h1, i, hi, h2⟩)
    · exact ⟨h1, i, by rw [List.length_append]; omega, by rw [cutAt_take a b i hi]; exact h2⟩
    · refine ⟨h1, a.length - 31 + i, by rw [List.length_append]; omega, ?_⟩
      rw [rest_eq, cutAt_drop _ _ _ (by rw [List.length_append]; omega)] at h2
      exact h2
  · rintro ⟨h1, i, hi, h2⟩
    rw [List.length_append] at hi
    by_cases h3 : i + 32 ≤ a.length
    · exact .inl ⟨h1, i, h3, by rw [← cutAt_take a b i h3]; exact h2⟩
    · refine .inr ⟨h1, i - (a.length - 31), by omega, ?_⟩
      rw [rest_eq, cutAt_drop _ _ _ (by rw [List.length_append]; omega), show a.length - 31 + (i - (a.length - 31)) = i by omega]
      exact h2
theorem find_nil (l : List ByteArray) : findB [] l = [] := by
  unfold findB
  exact foundB_nil
theorem find_len (b : List Int) (l : List ByteArray) : (findB b l).length ≤ b.length * l.length := by
  unfold findB
  refine Nat.le_trans (foundB_le _) (Nat.le_trans (hits_len _ _ _) ?_)
  exact Nat.mul_le_mul (by omega) (Nat.le_refl _)
/-- The bytes of the first k parts. -/
def flat (ps : List (List Int)) (k : Nat) : List Int := (ps.take k).flatten
theorem flat_next (ps : List (List Int)) (k : Nat) (hk : k < ps.length) : flat ps (k + 1) = flat ps k ++ ps[k] := by
  unfold flat
  rw [List.take_add_one, List.getElem?_eq_getElem hk, List.flatten_append]
  simp
end Go.Proofs.YtkmnjekbacdfoaaX
