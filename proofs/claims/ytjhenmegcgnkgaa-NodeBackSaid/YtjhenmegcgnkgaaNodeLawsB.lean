/- Node: Check, told the same by both. -/
import Derived.Test.YtjhenmegcgnkgaaQNodex3
import Derived.Test.YtjhenmegcgnkgaaNodeLaws
set_option linter.unusedVariables false
namespace Go.Proofs.YtjhenmegcgnkgaaX
open Go.RowKit Go.Proofs.Ytjhenmegcgnkgaa.PNode Go.Proofs.YtjhenmegcgnkgaaW.PrintWords Go.Proofs.YtjhenmegcgnkgaaW.PrintLast Go.Proofs.YtjhenmegcgnkgaaW.PrintMore

theorem ev_both {α : Type} (G : Nat → Nat → Option α) (n : Nat) (ok : Nat → Prop) {v bad : α} (hgo : ∀ i, i < n → ok i → ∀ k, G i (k + 1) = G (i + 1) k) (hbad : ∀ i, i < n → ¬ ok i → ∀ k, G i (k + 1) = some bad) (hend : Ev (G n) v) :
    ∃ r, Ev (G 0) r ∧ (((∀ j, j < n → ok j) ∧ r = v) ∨ (¬ (∀ j, j < n → ok j) ∧ r = bad)) := by
  rcases ev_all G n ok hgo hbad hend with ⟨h, e⟩ | ⟨⟨j, hj, hn⟩, e⟩
  · exact ⟨v, e, .inl ⟨h, rfl⟩⟩
  · exact ⟨bad, e, .inr ⟨fun hc => hn (hc j hj), rfl⟩⟩

abbrev kb (l : List ByteArray) (j : Nat) : ByteArray := rdOf ByteArray.empty l (j : Int)
abbrev lessAt (l : List ByteArray) (j : Nat) : Prop := Op.bytesLess (kb l (j - 1)).toList (kb l j).toList = true
theorem w1m {i : Nat} (h : 0 < i) (hn : i ≤ 9223372036854775807) : wrap64 ((i : Int) - 1) = ((i - 1 : Nat) : Int) := by
  rw [w64 (by omega) (by omega)]
  omega
theorem toList_nil (a : ByteArray) : a.toList = ([] : List UInt8) ↔ a.size = 0 := by
  rw [ba_toList, ba_size]
  exact List.length_eq_zero_iff.symm

def riseAt (l : List ByteArray) (j : Nat) : Prop := (1 ≤ ks l j ∧ ks l j ≤ 255) ∧ (0 < j → lessAt l j)
theorem rise_ev (l : List ByteArray) (h : l.length ≤ 1000000) : ∃ r, Ev (fun k => node_rise.f k l) r ∧ (((∀ j, j < l.length → riseAt l j) ∧ r = true) ∨ (¬ (∀ j, j < l.length → riseAt l j) ∧ r = false)) := by
  have hw : ∀ i : Nat, (node_within.f ((rdOf ByteArray.empty l (i : Int)).size : Int) 1 255) = some (decide (1 ≤ ks l i ∧ ks l i ≤ 255)) := by
    intro i
    unfold node_within.f
    show _ = some (decide (1 ≤ (rdOf ByteArray.empty l (i : Int)).size ∧ (rdOf ByteArray.empty l (i : Int)).size ≤ 255))
    by_cases h1 : ((rdOf ByteArray.empty l (i : Int)).size : Int) ≥ 1
    · rw [if_pos h1]
      congr 1
      rw [decide_eq_decide]
      omega
    · rw [if_neg h1]
      congr 1
      symm
      rw [decide_eq_false_iff_not]
      omega
  refine ev_both (fun i k => node_rise.l0 k l l (l.length : Int) (i : Int)) l.length (riseAt l) (v := true) (bad := false) ?_ ?_ (Ev.step (f := fun _ => some true) (fun k => by rw [node_rise.l0, if_neg (by omega)]) (Ev.now true))
  · intro i hi ho k
    rw [node_rise.l0, if_pos (by omega), if_pos (by omega), if_pos (by omega), hw i, decide_eq_true ho.1]
    simp only [Option.bind_some, if_true]
    by_cases h0 : i = 0
    · subst h0
      rw [if_neg (by omega), w1 hi (by omega)]
    · rw [if_pos (by omega), w1m (by omega) (by omega), if_pos (by omega), if_pos (by omega), if_pos (ho.2 (by omega)), w1 hi (by omega)]
  · intro i hi ho k
    rw [node_rise.l0, if_pos (by omega), if_pos (by omega), if_pos (by omega), hw i]
    simp only [Option.bind_some]
    by_cases h1 : 1 ≤ ks l i ∧ ks l i ≤ 255
    · rw [decide_eq_true h1, if_pos rfl]
      have h2 : ¬ (0 < i → lessAt l i) := fun hc => ho ⟨h1, hc⟩
      have h3 : 0 < i := Classical.byContradiction fun hc => h2 fun h => absurd h hc
      rw [if_pos (by omega), w1m h3 (by omega), if_pos (by omega), if_pos (by omega), if_neg (fun hc => h2 fun _ => hc)]
    · rw [decide_eq_false h1, if_neg (by decide)]

def roomOf (a1 : Int) : Int := wrap64 ((wrap64 (Int.tdiv (wrap64 (a1 - 16)) 4)) - 4)
theorem most_in {a1 : Int} (h : 64 ≤ a1 ∧ a1 ≤ 4096) : node_Most.f a1 = some (roomOf a1, 0) := by
  unfold node_Most.f node_within.f
  rw [if_pos h.1, decide_eq_true h.2]
  rfl
theorem most_out {a1 : Int} (h : ¬ (64 ≤ a1 ∧ a1 ≤ 4096)) : node_Most.f a1 = some (0, 1) := by
  unfold node_Most.f node_within.f
  by_cases h1 : a1 ≥ 64
  · rw [if_pos h1, decide_eq_false (fun hc => h ⟨h1, hc⟩)]
    rfl
  · rw [if_neg h1]
    rfl
def refC (l : List Int) (j : Nat) : Prop := ¬ rd l (j : Int) < 1 ∧ ¬ rd l (j : Int) > 16777215
def refK (room : Int) (l : List ByteArray) (j : Nat) : Prop := ¬ (kb l j).toList = [] ∧ ¬ (ks l j : Int) > 255 ∧ ¬ (ks l j : Int) > room ∧ (0 < j → lessAt l j)
def refP (room : Int) (l : List S42) (j : Nat) : Prop := ¬ (rd_T42 l (j : Int)).f0.toList = [] ∧ ¬ (p0 l j : Int) > 255 ∧ ¬ (p1 l j : Int) > 255 ∧ ¬ wrap64 ((p0 l j : Int) + (p1 l j : Int)) > room ∧ (0 < j → Op.bytesLess (rd_T42 l ((j - 1 : Nat) : Int)).f0.toList (rd_T42 l (j : Int)).f0.toList = true)

section
variable (b : Bool) {l1 : List S42} {l2 : List ByteArray} {l3 : List Int} (a1 room : Int)
end
end Go.Proofs.YtjhenmegcgnkgaaX
