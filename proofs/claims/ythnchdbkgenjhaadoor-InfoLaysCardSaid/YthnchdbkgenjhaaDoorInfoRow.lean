/- An info by value as a law's argument: opened to its fields; rows of bytes. -/
import Derived.Test.YthnchdbkgenjhaaDoorRows
import Derived.Test.YthnchdbkgenjhaaDoorWWords
import Derived.Test.YthnchdbkgenjhaaDoorInfoSt
import Derived.WalkKit
import Derived.ProofKit
import Derived.OpenShut
import Derived.ShutString
import Derived.ChangeOld
import Derived.ChangeArms
import Derived.ChangeSame
import Derived.WideShapes
import Derived.Below
import Derived.SizedLaws
import Derived.SliceStrings
import Derived.ChangeSlices
import Derived.Deep.Slices
import Derived.Deep.Fields
import Derived.Carry
namespace Go.Proofs.YthnchdbkgenjhaaDoorX
open Go.ChangeShapes Go.WideShapes Go.ChangeAt Go.RowKit Go.Deep Go.Proofs.YthnchdbkgenjhaaDoorW.PrintWords
set_option linter.unusedVariables false
set_option linter.unusedSimpArgs false
section
variable {H : Type} {enc : TypeId × Value → H} {w : World}
theorem open_colP {α : Type} {d : Kd α} {t e : TypeId} (ht : Tryd.prog.underlying t = some (.slice e)) (hcell : Tryd.prog.cellsOf e = d.sz) (dflt : α) (Pd : α → Prop)
    (hel : ∀ n cs' y, DataW.trod enc Tryd.prog w 0 (fun _ => true) true n e cs' = some y → ∃ p, d.K w p cs' ∧ Pd p) {fuel : Nat} {cs : List Value} {x : DataW H × List MemPlace} (h : DataW.trod enc Tryd.prog w 0 (fun _ => true) true fuel t cs = some x) :
    ∃ (A : Option Addr) (l : List α) (c : Nat), cs = [.slice A l.length c] ∧ l.length ≤ c ∧ d.C w A l.length l ∧ ∀ p ∈ l, Pd p := by
  rcases open_slice ht h with ⟨rfl, _⟩ | ⟨a, len, cap, m, n, D, Pl, rfl, hb, hl, hm, hmm, hx, hi⟩
  · exact ⟨none, [], 0, rfl, Nat.le_refl _, Kd.C_nil _ _, fun p hp => (by cases hp)⟩
  · simp only [if_true] at hmm
    subst hmm
    rw [hcell] at hi
    have hex : ∀ i, ∃ p : α, i < m → Pd p ∧ ∃ cs', d.K w p cs' ∧ ∀ q u, cs'[q]? = some u → w.cell? (a.add (i * d.sz + q)) = some u := by
      intro i
      by_cases him : i < m
      · obtain ⟨cs', hc, ht'⟩ := hi i him
        obtain ⟨p, hp, hpd⟩ := hel n cs' _ ht'
        obtain ⟨_, hcl, hat⟩ := World.cells?_some hc
        refine ⟨p, fun _ => ⟨hpd, cs', hp, fun q u hq => ?_⟩⟩
        have hql : q < d.sz := by
          have := (List.getElem?_eq_some_iff.1 hq).1
          omega
        have h0 := hat q hql
        rw [Go.Deep.add_add] at h0
        rw [h0]
        exact hq
      · exact ⟨dflt, fun h => absurd h him⟩
    obtain ⟨g, hg⟩ := Classical.skolem.1 hex
    have hll : ((List.range len).map g).length = len := by simp
    refine ⟨some a, (List.range len).map g, m, by rw [hll], by rw [hll]; exact hl, ⟨rfl, by rw [hll]; simp only [maxLen] at hm; omega, fun hn => ⟨a, rfl, fun j p hj => ?_⟩⟩, fun p hp => ?_⟩
    rotate_left
    · obtain ⟨i, hi1, rfl⟩ := List.mem_map.1 hp
      exact (hg i (by have := List.mem_range.1 hi1; omega)).1
    obtain ⟨hjl, hjp⟩ := List.getElem?_eq_some_iff.1 hj
    have hjl' : j < len := by rw [hll] at hjl; exact hjl
    have hp : g j = p := by simpa using hjp
    obtain ⟨_, cs', hK, hat⟩ := hg j (by omega)
    rw [hp] at hK
    exact ⟨cs', d.K_len hK, hK, hat⟩
theorem open_texts {fuel : Nat} {cs : List Value} {x : DataW H × List MemPlace} (h : DataW.trod enc Tryd.prog w 0 (fun _ => true) true fuel 22 cs = some x) :
    ∃ (A : Option Addr) (l : List ByteArray) (c : Nat), cs = [.slice A l.length c] ∧ l.length ≤ c ∧ Kd.C Kd.string w A l.length l := by
  obtain ⟨A, l, c, e, hc, hC, _⟩ := open_colP (d := Kd.string) Tryd.underlying22 (by kernel_rfl) ByteArray.empty (fun _ => True) (fun n cs' y hy => by
    obtain ⟨s, e, _, _⟩ := DataW.trod_string Tryd.underlying9 hy
    exact ⟨s, e, trivial⟩) h
  exact ⟨A, l, c, e, hc, hC⟩
theorem info_cells : Tryd.prog.cellsOf 24 = 3 := by kernel_rfl
set_option maxRecDepth 100000 in
theorem open_infoC {cs : List Value} (hl : cs.length = 3) {fuel : Nat} {x : DataW H × List MemPlace} (h : DataW.trod enc Tryd.prog w 0 (fun _ => true) true fuel 24 cs = some x) :
    ∃ (hs : ByteArray) (n : Int) (A : Option Addr) (l : List ByteArray) (c : Nat), cs = [.string hs, .int .i64 n, .slice A l.length c] ∧ l.length ≤ c ∧ Kd.C Kd.string w A l.length l ∧ hs.size ∈ x.1.weights Tryd.prog 24 := by
  match cs, hl with
  | [c0, c1, c2], _ =>
    obtain ⟨xs, n, _, hx, _, hlen, hg⟩ := DataW.trod_struct Tryd.underlying24 h
    match xs, hlen with
    | [y0, y1, y2], _ =>
      have h0 := hg 0 _ rfl
      have h1 := hg 1 _ rfl
      have h2 := hg 2 _ rfl
      simp only [List.getElem?_cons_zero, List.getElem?_cons_succ] at h0 h1 h2
      have hd := hx
      obtain ⟨s0, e0, hy0, _⟩ := DataW.trod_string Tryd.underlying9 h0
      obtain ⟨n1, e1, _, _⟩ := DataW.trod_int Tryd.underlying3 h1
      obtain ⟨A2, l2, k2, e2, q2, r2⟩ := open_texts h2
      cases e0; cases e1; cases e2
      refine ⟨s0, n1, A2, l2, k2, rfl, q2, r2, ?_⟩
      rw [hd]
      have hu := Tryd.underlying24
      simp only [DataW.weights, hu]
      refine DataW.weights_mem_each (ts := [9, 3, 22]) (ds := [y0.1, y1.1, y2.1]) (j := 0) rfl rfl _ ?_
      rw [hy0, ba_size]
      simp [DataW.weights]
set_option maxRecDepth 100000 in
theorem open_info {r : Reach} {b0 : Nat} {v : Value} {d : DataW H} {p : List MemPlace} (hv : Value.okWide Tryd.prog w r b0 24 v) (h : DataW.Trod enc Tryd.prog w 0 (fun _ => true) true 24 v d p) (hwt : (d.weights Tryd.prog 24).all (· ≤ reachBytes) = true) :
    ∃ (hs : ByteArray) (n : Int) (A : Option Addr) (l : List ByteArray) (c : Nat), v = .agg #[.string hs, .int .i64 n, .slice A l.length c] ∧ l.length ≤ c ∧ Kd.C Kd.string w A l.length l ∧ hs.size ≤ reachBytes := by
  obtain ⟨cs, rfl, hsz⟩ := okWide_struct Tryd.underlying24 hv
  rw [info_cells] at hsz
  obtain ⟨l⟩ := cs
  obtain ⟨fuel, hf⟩ := h
  obtain ⟨hs, n, A, l2, c, e, hc, hC, hw⟩ := open_infoC (show l.length = 3 from hsz) (show DataW.trod enc Tryd.prog w 0 (fun _ => true) true fuel 24 l = some (d, p) from hf)
  subst e
  exact ⟨hs, n, A, l2, c, rfl, hc, hC, of_decide_eq_true (List.all_eq_true.1 hwt _ hw)⟩
end
end Go.Proofs.YthnchdbkgenjhaaDoorX
