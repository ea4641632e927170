/- Node: what the statements' guard says, and sizes. -/
import Derived.Test.YtjhenmegcgnkgaaQNodex3
import Derived.Test.YtjhenmegcgnkgaaPlain
import Derived.Test.YtjhenmegcgnkgaaEv
set_option linter.unusedVariables false
namespace Go.Proofs.YtjhenmegcgnkgaaX
open Go.RowKit Go.Proofs.Ytjhenmegcgnkgaa.PNode Go.Proofs.YtjhenmegcgnkgaaW.PrintWords Go.Proofs.YtjhenmegcgnkgaaW.PrintLast Go.Proofs.YtjhenmegcgnkgaaW.PrintMore

abbrev p0 (l : List S42) (j : Nat) : Nat := (rd_T42 l (j : Int)).f0.size
abbrev p1 (l : List S42) (j : Nat) : Nat := (rd_T42 l (j : Int)).f1.size
abbrev ks (l : List ByteArray) (j : Nat) : Nat := (rdOf ByteArray.empty l (j : Int)).size
structure Few (l1 : List S42) (l2 : List ByteArray) (l3 : List Int) : Prop where
  n1 : l1.length ≤ 200
  n2 : l2.length ≤ 200
  n3 : l3.length ≤ 200
  p : ∀ j, j < l1.length → ¬ wrap64 ((p0 l1 j : Int) + (p1 l1 j : Int)) > 2000
  k : ∀ j, j < l2.length → ¬ (ks l2 j : Int) > 2000

theorem few_ev (b : Bool) (l1 : List S42) (l2 : List ByteArray) (l3 : List Int) : ∃ r, Ev (fun k => chandlerylaw08_few.f k b l1 l2 l3) r ∧ (r = true → Few l1 l2 l3) := by
  have hno : Ev (fun k => chandlerylaw08_few.j0 k true b l1 l2 l3) false := Ev.step (f := fun _ => some false) (fun k => by rw [chandlerylaw08_few.j0, if_pos rfl]) (Ev.now false)
  by_cases h1 : (l1.length : Int) > 200
  · exact ⟨false, Ev.congr (fun k => by unfold chandlerylaw08_few.f; rw [if_pos h1]) hno, fun h => by cases h⟩
  by_cases h2 : (l2.length : Int) > 200
  · exact ⟨false, Ev.congr (fun k => by unfold chandlerylaw08_few.f; rw [if_neg h1, if_pos h2]) hno, fun h => by cases h⟩
  by_cases h3 : (l3.length : Int) > 200
  · exact ⟨false, Ev.congr (fun k => by unfold chandlerylaw08_few.f; rw [if_neg h1, if_neg h2, decide_eq_true h3]) hno, fun h => by cases h⟩
  have hk := ev_all (fun i k => chandlerylaw08_few.l1 k (i : Int) b l1 l2 l3) l2.length (fun j => ¬ (ks l2 j : Int) > 2000) (v := true) (bad := false)
    (fun i hi ho k => by rw [chandlerylaw08_few.l1, if_pos (by omega), if_pos (by omega)]; unfold ks at ho; rw [if_neg ho, w1 hi (by omega)])
    (fun i hi ho k => by rw [chandlerylaw08_few.l1, if_pos (by omega), if_pos (by omega)]; unfold ks at ho; rw [if_pos (Classical.not_not.1 ho)])
    (Ev.step (f := fun _ => some true) (fun k => by rw [chandlerylaw08_few.l1, if_neg (by omega)]) (Ev.now true))
  obtain ⟨r2, hr2, hk2⟩ : ∃ r2, Ev (fun k => chandlerylaw08_few.l1 k 0 b l1 l2 l3) r2 ∧ (r2 = true → ∀ j, j < l2.length → ¬ (ks l2 j : Int) > 2000) := by
    rcases hk with ⟨ha, hk⟩ | ⟨_, hk⟩
    · exact ⟨true, hk, fun _ => ha⟩
    · exact ⟨false, hk, fun h => by cases h⟩
  have hp := ev_all (fun i k => chandlerylaw08_few.l0 k (i : Int) b l1 l2 l3) l1.length (fun j => ¬ wrap64 ((p0 l1 j : Int) + (p1 l1 j : Int)) > 2000) (v := r2) (bad := false)
    (fun i hi ho k => by rw [chandlerylaw08_few.l0, if_pos (by omega), if_pos (by omega)]; unfold p0 p1 at ho; rw [if_neg ho, w1 hi (by omega)])
    (fun i hi ho k => by rw [chandlerylaw08_few.l0, if_pos (by omega), if_pos (by omega)]; unfold p0 p1 at ho; rw [if_pos (Classical.not_not.1 ho)])
    (Ev.step (f := fun k => chandlerylaw08_few.l1 k 0 b l1 l2 l3) (fun k => by rw [chandlerylaw08_few.l0, if_neg (by omega)]) hr2)
  have hf : ∀ k, chandlerylaw08_few.f k b l1 l2 l3 = chandlerylaw08_few.j0 k false b l1 l2 l3 := fun k => by unfold chandlerylaw08_few.f; rw [if_neg h1, if_neg h2, decide_eq_false h3]
  have hj : ∀ r, Ev (fun k => chandlerylaw08_few.l0 k 0 b l1 l2 l3) r → Ev (fun k => chandlerylaw08_few.f k b l1 l2 l3) r := fun r hr =>
    Ev.congr hf (Ev.step (f := fun k => chandlerylaw08_few.l0 k 0 b l1 l2 l3) (fun k => by rw [chandlerylaw08_few.j0, if_neg (by decide)]) hr)
  rcases hp with ⟨ha, hp⟩ | ⟨_, hp⟩
  · exact ⟨r2, hj _ hp, fun h => ⟨by omega, by omega, by omega, ha, hk2 h⟩⟩
  · exact ⟨false, hj _ hp, fun h => by cases h⟩

/-! ### sizes -/
def sP (l : List S42) : Nat → Nat
  | 0 => 0
  | j + 1 => sP l j + (2 + p0 l j + p1 l j)
def sK (l : List ByteArray) : Nat → Nat
  | 0 => 0
  | j + 1 => sK l j + (1 + ks l j)
/-- What lets sums be. -/
structure Fit (l1 : List S42) (l2 : List ByteArray) (l3 : List Int) : Prop where
  n1 : l1.length ≤ 5000
  n2 : l2.length ≤ 5000
  n3 : l3.length ≤ 5000
  p : ∀ j, j < l1.length → p0 l1 j + p1 l1 j ≤ 2000
  k : ∀ j, j < l2.length → ks l2 j ≤ 2000
theorem sP_le {l : List S42} (h : ∀ j, j < l.length → p0 l j + p1 l j ≤ 2000) : ∀ j, j ≤ l.length → sP l j ≤ j * 2002
  | 0, _ => Nat.le_refl _
  | j + 1, hj => by
    have h1 := sP_le h j (by omega)
    have h2 := h j (by omega)
    show sP l j + (2 + p0 l j + p1 l j) ≤ _
    omega
theorem sK_le {l : List ByteArray} (h : ∀ j, j < l.length → ks l j ≤ 2000) : ∀ j, j ≤ l.length → sK l j ≤ j * 2001
  | 0, _ => Nat.le_refl _
  | j + 1, hj => by
    have h1 := sK_le h j (by omega)
    have h2 := h j (by omega)
    show sK l j + (1 + ks l j) ≤ _
    omega
def szN (l1 : List S42) (l2 : List ByteArray) (l3 : List Int) : Nat := 3 + 3 * l3.length + sP l1 l1.length + sK l2 l2.length
theorem step4 {x a b : Nat} (hx : x ≤ 100000000) (ha : a + b ≤ 2000) : wrap64 ((x : Int) + (wrap64 ((wrap64 (2 + (a : Int))) + (b : Int)))) = ((x + (2 + a + b) : Nat) : Int) := by
  rw [w64 (x := 2 + (a : Int)) (by omega) (by omega), w64 (x := 2 + (a : Int) + (b : Int)) (by omega) (by omega), w64 (by omega) (by omega)]
  omega
theorem step4' {x a b : Nat} (hx : x ≤ 100000000) (ha : a + b ≤ 2000) : wrap64 ((wrap64 ((wrap64 ((x : Int) + 2)) + (a : Int))) + (b : Int)) = ((x + (2 + a + b) : Nat) : Int) := by
  rw [w64 (x := (x : Int) + 2) (by omega) (by omega), w64 (x := (x : Int) + 2 + (a : Int)) (by omega) (by omega), w64 (by omega) (by omega)]
  omega
theorem step3 {x a : Nat} (hx : x ≤ 100000000) (ha : a ≤ 2000) : wrap64 ((x : Int) + (wrap64 (1 + (a : Int)))) = ((x + (1 + a) : Nat) : Int) := by
  rw [w64 (x := 1 + (a : Int)) (by omega) (by omega), w64 (by omega) (by omega)]
  omega
theorem step3' {x a : Nat} (hx : x ≤ 100000000) (ha : a ≤ 2000) : wrap64 ((wrap64 ((x : Int) + 1)) + (a : Int)) = ((x + (1 + a) : Nat) : Int) := by
  rw [w64 (x := (x : Int) + 1) (by omega) (by omega), w64 (by omega) (by omega)]
  omega
theorem head4 {n : Nat} (h : n ≤ 5000) : wrap64 (3 + (wrap64 (3 * (n : Int)))) = ((3 + 3 * n : Nat) : Int) := by
  rw [w64 (x := 3 * (n : Int)) (by omega) (by omega), w64 (by omega) (by omega)]
  omega

theorem nodeSize_ev (b : Bool) {l1 : List S42} {l2 : List ByteArray} {l3 : List Int} (h : Fit l1 l2 l3) : Ev (fun k => node_Size.f k b l1 l2 l3) (szN l1 l2 l3 : Int) := by
  have hn1 := h.n1
  have hn2 := h.n2
  have hn3 := h.n3
  have hb1 := sP_le h.p
  have hb2 := sK_le h.k
  have hk := ev_go (fun i k => node_Size.l1 k ((3 + 3 * l3.length + sP l1 l1.length + sK l2 i : Nat) : Int) l2 (l2.length : Int) (i : Int)) l2.length
    (fun i hi k => by
      have h1 := hb1 l1.length (Nat.le_refl _)
      have h2 := hb2 i (by omega)
      have h3 := (step3 (x := 3 + 3 * l3.length + sP l1 l1.length + sK l2 i) (a := ks l2 i) (by omega) (h.k i hi)).trans (congrArg (fun n : Nat => (n : Int)) (Nat.add_assoc (3 + 3 * l3.length + sP l1 l1.length) (sK l2 i) (1 + ks l2 i)))
      rw [node_Size.l1, if_pos (by omega), if_pos (by omega), if_pos (by omega), w1 hi (by omega)]
      unfold ks at h3
      rw [h3]
      rfl)
    (v := (szN l1 l2 l3 : Int)) (Ev.step (f := fun _ => some (szN l1 l2 l3 : Int)) (fun k => by rw [node_Size.l1, if_neg (by omega)]; rfl) (Ev.now _))
  have hp := ev_go (fun i k => node_Size.l0 k ((3 + 3 * l3.length + sP l1 i : Nat) : Int) l1 (l1.length : Int) (i : Int) b l1 l2 l3) l1.length
    (fun i hi k => by
      have h1 := hb1 i (by omega)
      have h3 := (step4 (x := 3 + 3 * l3.length + sP l1 i) (a := p0 l1 i) (b := p1 l1 i) (by omega) (h.p i hi)).trans (congrArg (fun n : Nat => (n : Int)) (Nat.add_assoc (3 + 3 * l3.length) (sP l1 i) (2 + p0 l1 i + p1 l1 i)))
      rw [node_Size.l0, if_pos (by omega), if_pos (by omega), if_pos (by omega), w1 hi (by omega)]
      unfold p0 p1 at h3
      rw [h3]
      rfl)
    (v := (szN l1 l2 l3 : Int)) (Ev.step (f := fun k => node_Size.l1 k ((3 + 3 * l3.length + sP l1 l1.length + sK l2 0 : Nat) : Int) l2 (l2.length : Int) 0) (fun k => by rw [node_Size.l0, if_neg (by omega)]; rfl) hk)
  refine Ev.congr (fun k => ?_) hp
  unfold node_Size.f
  rw [head4 hn3]
  rfl
end Go.Proofs.YtjhenmegcgnkgaaX
