/- Rows as a law's arguments: opened to lists, whatever their elements are. -/
import Derived.Test.YtkmnjekbacdfoaaRows
import Derived.Test.YtkmnjekbacdfoaaWWords
import Derived.WalkKit
import Derived.ProofKit
import Derived.OpenShut
import Derived.ShutString
import Derived.ChangeOld
import Derived.ChangeArms
import Derived.ChangeSame
import Derived.WideShapes
import Derived.Below
import Derived.SizedLaws
import Derived.SliceStrings
import Derived.ChangeSlices
import Derived.Deep.Slices
import Derived.Deep.Fields
import Derived.Carry
namespace Go.Proofs.YtkmnjekbacdfoaaX
open Go.ChangeShapes Go.WideShapes Go.ChangeAt Go.RowKit Go.Deep Go.Proofs.YtkmnjekbacdfoaaW.PrintWords
set_option linter.unusedVariables false
set_option linter.unusedSimpArgs false
section
variable {H : Type} {enc : TypeId × Value → H} {w : World}
theorem open_col {α : Type} {d : Kd α} {t e : TypeId} (ht : Try.prog.underlying t = some (.slice e)) (hcell : Try.prog.cellsOf e = d.sz) (dflt : α)
    (hel : ∀ n cs' y, DataW.trod enc Try.prog w 0 (fun _ => true) true n e cs' = some y → ∃ p, d.K w p cs') {fuel : Nat} {cs : List Value} {x : DataW H × List MemPlace} (h : DataW.trod enc Try.prog w 0 (fun _ => true) true fuel t cs = some x) :
    ∃ (A : Option Addr) (l : List α) (c : Nat), cs = [.slice A l.length c] ∧ l.length ≤ c ∧ d.C w A l.length l := by
  rcases open_slice ht h with ⟨rfl, _⟩ | ⟨a, len, cap, m, n, D, Pl, rfl, hb, hl, hm, hmm, hx, hi⟩
  · exact ⟨none, [], 0, rfl, Nat.le_refl _, Kd.C_nil _ _⟩
  · simp only [if_true] at hmm
    subst hmm
    rw [hcell] at hi
    have hex : ∀ i, ∃ p : α, i < m → ∃ cs', d.K w p cs' ∧ ∀ q u, cs'[q]? = some u → w.cell? (a.add (i * d.sz + q)) = some u := by
      intro i
      by_cases him : i < m
      · obtain ⟨cs', hc, ht'⟩ := hi i him
        obtain ⟨p, hp⟩ := hel n cs' _ ht'
        obtain ⟨_, hcl, hat⟩ := World.cells?_some hc
        refine ⟨p, fun _ => ⟨cs', hp, fun q u hq => ?_⟩⟩
        have hql : q < d.sz := by
          have := (List.getElem?_eq_some_iff.1 hq).1
          omega
        have h0 := hat q hql
        rw [Go.Deep.add_add] at h0
        rw [h0]
        exact hq
      · exact ⟨dflt, fun h => absurd h him⟩
    obtain ⟨g, hg⟩ := Classical.skolem.1 hex
    have hll : ((List.range len).map g).length = len := by simp
    refine ⟨some a, (List.range len).map g, m, by rw [hll], by rw [hll]; exact hl, ⟨rfl, by rw [hll]; simp only [maxLen] at hm; omega, fun hn => ⟨a, rfl, fun j p hj => ?_⟩⟩⟩
    obtain ⟨hjl, hjp⟩ := List.getElem?_eq_some_iff.1 hj
    have hjl' : j < len := by rw [hll] at hjl; exact hjl
    have hp : g j = p := by simpa using hjp
    obtain ⟨cs', hK, hat⟩ := hg j (by omega)
    rw [hp] at hK
    exact ⟨cs', d.K_len hK, hK, hat⟩
theorem open_texts {fuel : Nat} {cs : List Value} {x : DataW H × List MemPlace} (h : DataW.trod enc Try.prog w 0 (fun _ => true) true fuel 23 cs = some x) :
    ∃ (A : Option Addr) (l : List ByteArray) (c : Nat), cs = [.slice A l.length c] ∧ l.length ≤ c ∧ Kd.C Kd.string w A l.length l :=
  open_col (d := Kd.string) Try.underlying23 (by kernel_rfl) ByteArray.empty (fun n cs' y hy => by
    obtain ⟨s, e, _, _⟩ := DataW.trod_string Try.underlying9 hy
    exact ⟨s, e⟩) h
theorem open_bytes {fuel : Nat} {cs : List Value} {x : DataW H × List MemPlace} (h : DataW.trod enc Try.prog w 0 (fun _ => true) true fuel 22 cs = some x) :
    ∃ (A : Option Addr) (l : List Int) (c : Nat), cs = [.slice A l.length c] ∧ l.length ≤ c ∧ Kd.C (Kd.int .u8) w A l.length l :=
  open_col (d := Kd.int .u8) Try.underlying22 (by kernel_rfl) 0 (fun n cs' y hy => by
    obtain ⟨s, e, _⟩ := DataW.trod_int Try.underlying5 hy
    exact ⟨s, e⟩) h
theorem open_rows {fuel : Nat} {cs : List Value} {x : DataW H × List MemPlace} (h : DataW.trod enc Try.prog w 0 (fun _ => true) true fuel 30 cs = some x) :
    ∃ (A : Option Addr) (l : List (List Int)) (c : Nat), cs = [.slice A l.length c] ∧ l.length ≤ c ∧ Kd.C (Kd.slice 5 (Kd.int .u8)) w A l.length l :=
  open_col (d := Kd.slice 5 (Kd.int .u8)) Try.underlying30 (by kernel_rfl) [] (fun n cs' y hy => by
    obtain ⟨A, l, c, e, hc, hC⟩ := open_bytes hy
    exact ⟨l, A, c, e, hc, hC⟩) h
end
end Go.Proofs.YtkmnjekbacdfoaaX
