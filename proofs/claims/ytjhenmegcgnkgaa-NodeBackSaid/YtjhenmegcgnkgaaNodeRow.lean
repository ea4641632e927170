/- A node by value as a law's argument: opened to its four fields, its rows as lists. -/
import Derived.Test.YtjhenmegcgnkgaaQNodex0
import Derived.Test.YtjhenmegcgnkgaaRows
import Derived.Test.YtjhenmegcgnkgaaPlain
import Derived.WalkKit
import Derived.ProofKit
import Derived.OpenShut
import Derived.ShutString
import Derived.ChangeOld
import Derived.ChangeArms
import Derived.ChangeSame
import Derived.WideShapes
import Derived.Below
import Derived.SizedLaws
import Derived.SliceStrings
import Derived.ChangeSlices
import Derived.Deep.Slices
import Derived.Deep.Fields
import Derived.Carry
namespace Go.Proofs.YtjhenmegcgnkgaaX
open Go.ChangeShapes Go.WideShapes Go.ChangeAt Go.RowKit Go.Deep Go.Proofs.YtjhenmegcgnkgaaW.PrintWords Go.Proofs.Ytjhenmegcgnkgaa.PNode
set_option linter.unusedVariables false
set_option linter.unusedSimpArgs false

theorem weightsAll_in {H : Type} {P : Program} {e : TypeId} : ∀ {l : List (DataW H)} {d : DataW H}, d ∈ l → ∀ n ∈ d.weights P e, n ∈ DataW.weightsAll P e l
  | [], _, h, _, _ => by cases h
  | x :: l, d, h, n, hn => by
    unfold DataW.weightsAll
    rcases List.mem_cons.1 h with rfl | h
    · exact List.mem_append_left _ hn
    · exact List.mem_append_right _ (weightsAll_in h n hn)

section
variable {H : Type} {enc : TypeId × Value → H} {w : World}
theorem node_cells : Try.prog.cellsOf 26 = 4 := by kernel_rfl
theorem pair_cells : Try.prog.cellsOf 42 = 2 := by kernel_rfl
theorem int_cells : Try.prog.cellsOf 3 = 1 := by kernel_rfl
theorem str_cells : Try.prog.cellsOf 9 = 1 := by kernel_rfl
theorem pair_bytes : Try.prog.bytesOf 42 = 32 := by kernel_rfl
theorem int_bytes : Try.prog.bytesOf 3 = 8 := by kernel_rfl
theorem str_bytes : Try.prog.bytesOf 9 = 16 := by kernel_rfl

/-- What a pair's data weighs. -/
def PairD (p : S42) (d : DataW H) : Prop := d = .agg [.lit (.string p.f0.data.toList), .lit (.string p.f1.data.toList)]
theorem pairD_sizes {p : S42} {d : DataW H} (h : PairD p d) : p.f0.size ∈ d.weights Try.prog 42 ∧ p.f1.size ∈ d.weights Try.prog 42 := by
  have hk := Try.underlying42
  rw [h, ba_size, ba_size]
  generalize p.f0.data.toList = x0
  generalize p.f1.data.toList = x1
  exact ⟨by simp [DataW.weights, DataW.weightsEach, hk], by simp [DataW.weights, DataW.weightsEach, hk]⟩

theorem open_pairs {fuel : Nat} {cs : List Value} {x : DataW H × List MemPlace} (h : DataW.trod enc Try.prog w 0 (fun _ => true) true fuel 22 cs = some x) (hwt : (x.1.weights Try.prog 22).all (· ≤ reachBytes) = true) :
    ∃ (A : Option Addr) (l : List S42) (c : Nat), cs = [.slice A l.length c] ∧ l.length ≤ c ∧ Kd.C k42 w A l.length l ∧ ∀ p ∈ l, p.f0.size ≤ reachBytes ∧ p.f1.size ≤ reachBytes := by
  have hs9 := Try.underlying9
  rcases open_slice Try.underlying22 h with ⟨rfl, _⟩ | ⟨a, len, cap, m, n, D, Pl, rfl, hb, hl, hm, hmm, hx, hi⟩
  · exact ⟨none, [], 0, rfl, Nat.le_refl _, ⟨rfl, by decide, fun h => absurd h (Nat.lt_irrefl 0)⟩, fun p hp => by cases hp⟩
  · simp only [if_true] at hmm
    subst hmm
    rw [pair_cells] at hi
    have hex : ∀ i, ∃ p : S42, i < m → (w.cell? (a.add (i * 2)) = some (.string p.f0) ∧ w.cell? (a.add (i * 2 + 1)) = some (.string p.f1) ∧ PairD p (D i)) := by
      intro i
      by_cases him : i < m
      · obtain ⟨cs', hc, ht'⟩ := hi i him
        obtain ⟨ys, n', hn', hy, hlen, hyl, hf⟩ := DataW.trod_struct Try.underlying42 ht'
        obtain ⟨_, hcl, hat⟩ := World.cells?_some hc
        match cs', hcl, ys, hyl with
        | [z0, z1], _, [y0, y1], _ =>
          have h0 := hf 0 _ rfl
          have h1 := hf 1 _ rfl
          simp only [str_cells, List.drop_zero, List.drop_succ_cons, List.take_succ_cons, List.take_zero, List.getElem?_cons_zero, List.getElem?_cons_succ] at h0 h1
          obtain ⟨s0, e0, rfl, _⟩ := DataW.trod_string Try.underlying9 h0
          obtain ⟨s1, e1, rfl, _⟩ := DataW.trod_string Try.underlying9 h1
          cases e0
          cases e1
          have c0 := hat 0 (by decide)
          have c1 := hat 1 (by decide)
          simp only [Prod.mk.injEq] at hy
          refine ⟨⟨s0, s1⟩, fun _ => ⟨?_, ?_, hy.1⟩⟩
          · have : (a.add (i * 2)).add 0 = a.add (i * 2) := by rw [Go.Deep.add_add]; rfl
            rw [this] at c0
            exact c0
          · rw [Go.Deep.add_add] at c1
            exact c1
      · exact ⟨z42, fun h => absurd h him⟩
    obtain ⟨g, hg⟩ := Classical.skolem.1 hex
    have hll : ((List.range len).map g).length = len := by simp
    refine ⟨some a, (List.range len).map g, m, by rw [hll], by rw [hll]; exact hl, ⟨rfl, by rw [hll]; simp only [maxLen] at hm; omega, fun hn => ⟨a, rfl, fun j p hj => ?_⟩⟩, ?_⟩
    · obtain ⟨hjl, hjp⟩ := List.getElem?_eq_some_iff.1 hj
      have hjl' : j < len := by rw [hll] at hjl; exact hjl
      have hp : g j = p := by simpa using hjp
      obtain ⟨q0, q1, _⟩ := hg j (by omega)
      rw [hp] at q0 q1
      refine ⟨[.string p.f0, .string p.f1], rfl, k42_mk w p, fun i u hu => ?_⟩
      match i, hu with
      | 0, hu =>
        have : Value.string p.f0 = u := by simpa using hu
        rw [← this]
        exact q0
      | 1, hu =>
        have : Value.string p.f1 = u := by simpa using hu
        rw [← this]
        exact q1
      | k + 2, hu => simp at hu
    · intro p hp
      obtain ⟨i, hi1, rfl⟩ := List.mem_map.1 hp
      have hil : i < len := List.mem_range.1 hi1
      obtain ⟨_, _, hd⟩ := hg i (by omega)
      have hin : ∀ n ∈ (D i).weights Try.prog 42, n ∈ x.1.weights Try.prog 22 := by
        intro n hn
        rw [hx]
        have hu := Try.underlying22
        simp only [DataW.weights, hu]
        exact List.mem_cons_of_mem _ (List.mem_append_left _ (weightsAll_in (List.mem_map.2 ⟨i, hi1, rfl⟩) n hn))
      have hs := pairD_sizes hd
      exact ⟨of_decide_eq_true (List.all_eq_true.1 hwt _ (hin _ hs.1)), of_decide_eq_true (List.all_eq_true.1 hwt _ (hin _ hs.2))⟩

theorem open_texts {fuel : Nat} {cs : List Value} {x : DataW H × List MemPlace} (h : DataW.trod enc Try.prog w 0 (fun _ => true) true fuel 23 cs = some x) (hwt : (x.1.weights Try.prog 23).all (· ≤ reachBytes) = true) :
    ∃ (A : Option Addr) (l : List ByteArray) (c : Nat), cs = [.slice A l.length c] ∧ l.length ≤ c ∧ Kd.C Kd.string w A l.length l ∧ ∀ s ∈ l, s.size ≤ reachBytes := by
  rcases open_strings Try.underlying23 Try.underlying9 str_cells h with ⟨rfl, _⟩ | ⟨a, len, cap, ss, rfl, hb, hl, hm, hss, hx, hc, hz⟩
  · exact ⟨none, [], 0, rfl, Nat.le_refl _, ⟨rfl, by decide, fun h => absurd h (Nat.lt_irrefl 0)⟩, fun p hp => by cases hp⟩
  · simp only [if_true] at hss
    have hll : (ss.take len).length = len := by rw [List.length_take]; omega
    refine ⟨some a, ss.take len, cap, by rw [hll], by rw [hll]; exact hl, Kd.C_of_reads (d := ByteArray.empty) ⟨rfl, by rw [hll]; simp only [maxLen] at hm; omega, fun hn => ⟨a, rfl, fun j hj => ?_⟩⟩, ?_⟩
    · rw [hll] at hj
      rw [hc j (by omega)]
      simp [List.getD_eq_getElem?_getD, hj]
    · intro s hs
      have hin : s.size ∈ x.1.weights Try.prog 23 := by
        rw [hx]
        have hu := Try.underlying23
        simp only [DataW.weights, hu]
        refine List.mem_cons_of_mem _ (List.mem_append_left _ (weightsAll_in (d := .lit (.string s.data.toList)) ?_ _ ?_))
        · exact List.mem_map.2 ⟨s, hs, rfl⟩
        · rw [ba_size]
          simp only [DataW.weights, List.mem_singleton]
      exact of_decide_eq_true (List.all_eq_true.1 hwt _ hin)

theorem open_nums {fuel : Nat} {cs : List Value} {x : DataW H × List MemPlace} (h : DataW.trod enc Try.prog w 0 (fun _ => true) true fuel 24 cs = some x) :
    ∃ (A : Option Addr) (l : List Int) (c : Nat), cs = [.slice A l.length c] ∧ l.length ≤ c ∧ Kd.C (Kd.int .i64) w A l.length l ∧ ∀ n ∈ l, (Lit.int .i64 n).wf = true := by
  rcases open_ints Try.underlying24 Try.underlying3 int_cells h with ⟨rfl, _⟩ | ⟨a, len, cap, ss, rfl, hb, hl, hm, hss, hx, hc, hz⟩
  · exact ⟨none, [], 0, rfl, Nat.le_refl _, ⟨rfl, by decide, fun h => absurd h (Nat.lt_irrefl 0)⟩, fun p hp => by cases hp⟩
  · simp only [if_true] at hss
    have hll : (ss.take len).length = len := by rw [List.length_take]; omega
    refine ⟨some a, ss.take len, cap, by rw [hll], by rw [hll]; exact hl, Kd.C_of_reads (d := (0 : Int)) ⟨rfl, by rw [hll]; simp only [maxLen] at hm; omega, fun hn => ⟨a, rfl, fun j hj => ?_⟩⟩, fun n hn => hz n (List.mem_of_mem_take hn)⟩
    rw [hll] at hj
    rw [hc j (by omega)]
    simp [List.getD_eq_getElem?_getD, hj]

theorem open_node {r : Reach} {b0 : Nat} {v : Value} {d : DataW H} {p : List MemPlace} (hv : Value.okWide Try.prog w r b0 26 v) (h : DataW.Trod enc Try.prog w 0 (fun _ => true) true 26 v d p) (hwt : (d.weights Try.prog 26).all (· ≤ reachBytes) = true) :
    ∃ (b : Bool) (A1 : Option Addr) (l1 : List S42) (c1 : Nat) (A2 : Option Addr) (l2 : List ByteArray) (c2 : Nat) (A3 : Option Addr) (l3 : List Int) (c3 : Nat),
      v = .agg #[.bool b, .slice A1 l1.length c1, .slice A2 l2.length c2, .slice A3 l3.length c3] ∧ l1.length ≤ c1 ∧ Kd.C k42 w A1 l1.length l1 ∧ (∀ p ∈ l1, p.f0.size ≤ reachBytes ∧ p.f1.size ≤ reachBytes) ∧
      l2.length ≤ c2 ∧ Kd.C Kd.string w A2 l2.length l2 ∧ (∀ s ∈ l2, s.size ≤ reachBytes) ∧ l3.length ≤ c3 ∧ Kd.C (Kd.int .i64) w A3 l3.length l3 ∧ ∀ n ∈ l3, (Lit.int .i64 n).wf = true := by
  obtain ⟨cs, rfl, hsz⟩ := okWide_struct Try.underlying26 hv
  rw [node_cells] at hsz
  obtain ⟨l⟩ := cs
  match l, hsz with
  | [c0, c1, c2, c3], _ =>
    obtain ⟨fuel, hf⟩ := h
    obtain ⟨xs, n, _, hx, _, hlen, hg⟩ := DataW.trod_struct Try.underlying26 hf
    match xs, hlen with
    | [y0, y1, y2, y3], _ =>
      have h0 := hg 0 _ rfl
      have h1 := hg 1 _ rfl
      have h2 := hg 2 _ rfl
      have h3 := hg 3 _ rfl
      simp only [Value.cells, List.getElem?_cons_zero, List.getElem?_cons_succ] at h0 h1 h2 h3
      simp only [Prod.mk.injEq] at hx
      have hd := hx.1
      have hw : ∀ (j : Nat) (t : TypeId) (y : DataW H), [4, 22, 23, 24][j]? = some t → [y0.1, y1.1, y2.1, y3.1][j]? = some y → (y.weights Try.prog t).all (· ≤ reachBytes) = true := by
        intro j t y ht hy
        refine List.all_eq_true.2 fun n hn => List.all_eq_true.1 hwt n ?_
        rw [hd]
        have hu := Try.underlying26
        simp only [DataW.weights, hu]
        exact DataW.weights_mem_each (ts := [4, 22, 23, 24]) (ds := [y0.1, y1.1, y2.1, y3.1]) ht hy n hn
      obtain ⟨b, e0, _⟩ := DataW.trod_bool Try.underlying4 h0
      obtain ⟨A1, l1, k1, e1, q1, r1, s1⟩ := open_pairs h1 (hw 1 _ _ rfl rfl)
      obtain ⟨A2, l2, k2, e2, q2, r2, s2⟩ := open_texts h2 (hw 2 _ _ rfl rfl)
      obtain ⟨A3, l3, k3, e3, q3, r3, s3⟩ := open_nums h3
      cases e0; cases e1; cases e2; cases e3
      exact ⟨b, A1, l1, k1, A2, l2, k2, A3, l3, k3, rfl, q1, r1, s1, q2, r2, s2, q3, r3, s3⟩
end
end Go.Proofs.YtjhenmegcgnkgaaX
