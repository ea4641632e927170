/- fsys.names, fsys.Path: a range over a function that keeps the rest of the path in a variable of its own: the walks. -/
import Derived.Test.YtlcaogiljiieaaaPath
set_option linter.unusedVariables false
set_option linter.unusedSimpArgs false
namespace Go.Proofs.YtlcaogiljiieaaaX
open Go.RowKit Go.Shelf Go.Proofs.YtlcaogiljiieaaaW.PrintWords
attribute [local go_sem] Oper.semAt_some

/-- How far the rest of the path goes: for the loop's measure. -/
def left (W : World) (B : Nat) (m : Value) : Nat :=
  match m with
  | .bool true => match W.cell? ⟨B, 0, none⟩ with
    | some (.string s) => s.size + 1
    | _ => 0
  | _ => 0
theorem left_go {W : World} {B : Nat} {s : ByteArray} (h : W.cell? ⟨B, 0, none⟩ = some (.string s)) : left W B (.bool true) = s.size + 1 := by
  unfold left
  rw [h]
theorem left_end (W : World) (B : Nat) : left W B (.bool false) = 0 := rfl
theorem grownBy_drewN (W : World) (n : Nat) : W.grownBy (W.drewN n) none := ⟨rfl, rfl, rfl, Nat.le_refl _, fun _ _ _ => rfl⟩

set_option maxRecDepth 100000 in
set_option maxHeartbeats 1000000 in
theorem names1_in (F : Fence) (n : Nat) (hw : F = Fence.wide) (hn : 1 ≤ n) (l B : Nat) (s0 : ByteArray) (hs : s0.size ≤ 140737488355328) (A : List ByteArray) (hA : (if s0.toList = [] then [] else piecesB s0) = A) (J Jx : List ByteArray → World → Prop)
    (hJ : ∀ pre W W' row, J pre W → W.grownBy W' row → (row = none ∨ row = some B) → J pre W')
    (hY : ∀ pre x W, pre ++ [x] <+: A → J pre W → YieldAt F (n - 1) Try.prog l #[.string x] W fun e W' =>
      (e = .returned (.bool true) ∧ J (pre ++ [x]) W' ∧ W'.heap[B]? = W.heap[B]?) ∨ (e = .returned (.bool false) ∧ Jx (pre ++ [x]) W'))
    (W : World) (hB : Boxed W B 9 (.string s0)) (h0 : J [] W) :
    CallsIn F n Try.prog 92 #[.func (.yield l) #[] #[], .pointer (some ⟨B, 0, none⟩)] W fun e W' => (∃ v, e = .returned v) ∧
      (J A W' ∨ (∃ pre, pre <+: A ∧ Jx pre W')) := by
  subst hw
  have HA0 := Aside0.mk hA
  clear hA
  refine callsIn_of_wp Try.func92 rfl trivial ?_ rfl
  simp only [Try.ntmps92, List.size_toArray, List.length_cons, List.length_nil, Nat.reduceAdd, Nat.reduceSub, Array.replicate_succ, Array.replicate_zero, List.push_toArray, List.append_toArray, List.nil_append, List.cons_append]
  have hc := hB.cell
  gi_wp2
  gi_loopw [3] (fun m wr => ∃ (b : Bool) (pre rest : List ByteArray) (s : ByteArray), m = .bool b ∧ Boxed wr B 9 (.string s) ∧ s.size ≤ 140737488355328 ∧ A = pre ++ rest ∧ rest = (if b = true then piecesB s else []) ∧ J pre wr)
    (fun m wr => left wr B m)
  case atStart =>
    by_cases he : s0.toList = []
    · exact ⟨false, [], [], s0, by simp [he], hB, hs, by rw [← HA0.out]; simp [he], rfl, h0⟩
    · exact ⟨true, [], piecesB s0, s0, by simp [he], hB, hs, by rw [← HA0.out]; simp [he], rfl, h0⟩
  case round =>
    obtain ⟨b, pre, rest, s, rfl, hbx, hss, hall, hrest, hJs⟩ := hrel
    have hc1 := hbx.cell
    have hf1 := hbx.frozen
    have HA := Aside0.mk hall
    clear hall
    cases b
    · gi_wp2
      go_end0
      exact ⟨⟨_, rfl⟩, .inl (by rw [HA.out, hrest]; simpa using hJs)⟩
    · rw [if_pos rfl] at hrest
      subst hrest
      have hleft := left_go hc1
      rcases idx_cases s with hix | ⟨i, hix, hlt⟩
      · have hcut := cut_none hix
        have HA : Aside0 (A = pre ++ [s]) := Aside0.mk (by rw [HA.out, pieces_none hix])
        gi_wp2_with (refine ⟨trivial, ?_⟩; gi_at_call 93; refine (callsIn_wide.2 (cut_calls _ _ hss)).mono ?_; rintro e w' ⟨rfl, n1, rfl⟩; rw [hcut]; have hb1 : Boxed (wr.drewN n1) B 9 (.string s) := hbx; have hj1 : J pre (wr.drewN n1) := hJ _ _ _ none hJs (grownBy_drewN _ _) (.inl rfl); generalize wr.drewN n1 = W1 at hb1 hj1 ⊢; have hc2 := hb1.cell; have hf2 := hb1.frozen; have hj2 := hJ _ _ _ (some B) hj1 (grownBy_setCell' W1 B (.string ⟨#[]⟩)) (.inr rfl); obtain ⟨fn, tmps, assign, body, hy, hR⟩ := hY pre s _ (by rw [HA.out]; exact List.prefix_refl _) hj2)
        refine hR.mono ?_
        rintro e W3 (⟨rfl, hJ3, hk3⟩ | ⟨rfl, hJx3⟩)
        · have hb3 : Boxed W3 B 9 (.string ⟨#[]⟩) := hk3.trans (hb1.set _)
          gi_wp2
          go_roundw
          case rel => exact ⟨false, pre ++ [s], [], ⟨#[]⟩, rfl, hb3, by decide, by rw [HA.out]; simp, rfl, hJ3⟩
          case measure => rw [left_end, hleft]; omega
        · gi_wp2
          refine bodyPost_ret (results_none rfl _ _ _) rfl ?_
          exact ⟨⟨_, rfl⟩, .inr ⟨pre ++ [s], by rw [HA.out]; exact List.prefix_refl _, hJx3⟩⟩
      · have hcut := cut_some hix
        have HA : Aside0 (A = pre ++ s.extract 0 i :: piecesB (s.extract (i + 1) s.size)) := Aside0.mk (by rw [HA.out, pieces_some hix])
        gi_wp2_with (refine ⟨trivial, ?_⟩; gi_at_call 93; refine (callsIn_wide.2 (cut_calls _ _ hss)).mono ?_; rintro e w' ⟨rfl, n1, rfl⟩; rw [hcut]; have hb1 : Boxed (wr.drewN n1) B 9 (.string s) := hbx; have hj1 : J pre (wr.drewN n1) := hJ _ _ _ none hJs (grownBy_drewN _ _) (.inl rfl); generalize wr.drewN n1 = W1 at hb1 hj1 ⊢; have hc2 := hb1.cell; have hf2 := hb1.frozen; have hj2 := hJ _ _ _ (some B) hj1 (grownBy_setCell' W1 B (.string (s.extract (i + 1) s.size))) (.inr rfl); obtain ⟨fn, tmps, assign, body, hy, hR⟩ := hY pre (s.extract 0 i) _ (by rw [HA.out]; exact ⟨piecesB (s.extract (i + 1) s.size), by simp⟩) hj2)
        refine hR.mono ?_
        have hsz : (s.extract (i + 1) s.size).size = s.size - (i + 1) := by rw [ByteArray.size_extract]; omega
        rintro e W3 (⟨rfl, hJ3, hk3⟩ | ⟨rfl, hJx3⟩)
        · have hb3 : Boxed W3 B 9 (.string (s.extract (i + 1) s.size)) := hk3.trans (hb1.set _)
          have hl3 := left_go hb3.cell
          gi_wp2
          go_roundw
          case rel => exact ⟨true, pre ++ [s.extract 0 i], piecesB (s.extract (i + 1) s.size), s.extract (i + 1) s.size, rfl, hb3, by omega, by rw [HA.out]; simp, rfl, hJ3⟩
          case measure => rw [hl3, hleft]; omega
        · gi_wp2
          refine bodyPost_ret (results_none rfl _ _ _) rfl ?_
          exact ⟨⟨_, rfl⟩, .inr ⟨pre ++ [s.extract 0 i], by rw [HA.out]; exact ⟨piecesB (s.extract (i + 1) s.size), by simp⟩, hJx3⟩⟩
end Go.Proofs.YtlcaogiljiieaaaX
