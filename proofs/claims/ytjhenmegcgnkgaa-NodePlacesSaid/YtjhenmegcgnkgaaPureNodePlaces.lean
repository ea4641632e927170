/- NodePlaces: the plain statement. Conditions: none but what the row tells of sizes. -/
import Derived.Test.YtjhenmegcgnkgaaQNodex10
import Derived.Test.YtjhenmegcgnkgaaNodePlaces
import Derived.Test.YtjhenmegcgnkgaaNodeAwake
set_option linter.unusedVariables false
namespace Go.Proofs.Ytjhenmegcgnkgaa.Pure
open Go.RowKit Go.Proofs.Ytjhenmegcgnkgaa.PNode Go.Proofs.YtjhenmegcgnkgaaW.PrintWords Go.Proofs.YtjhenmegcgnkgaaW.PrintLast Go.Proofs.YtjhenmegcgnkgaaW.PrintMore Go.Proofs.YtjhenmegcgnkgaaX

theorem wm {i n : Nat} (h : i + 1 < n) (hn : n ≤ 1000000) : wrap64 (((i + 1 : Nat) : Int) - 1) = (i : Int) := by
  rw [w64 (by omega) (by omega)]
  omega
theorem place_both (b : Bool) {l1 : List S42} {l2 : List ByteArray} {l3 : List Int} (key : ByteArray) (n1 : l1.length ≤ 1000000) (n2 : l2.length ≤ 1000000) (h1 : Rises (kf l1) l1.length) (h2 : Rises (kl l2) l2.length) :
    ∃ r, Ev (fun k => node_Place.f k b l1 l2 l3 key) r ∧ Ev (fun k => chandleryref08_Place.f k b l1 l2 l3 key) r := by
  cases b
  · obtain ⟨t, ht⟩ := parts_of (key := key.toList) h2
    exact ⟨_, inner_node key n2 ht, inner_ref key n2 ht h2⟩
  · obtain ⟨t, ht⟩ := parts_of (key := key.toList) h1
    exact ⟨_, Ev.congr (fun k => leaf_node key n1 ht k) (Ev.now _), leaf_ref key n1 ht⟩

theorem nodePlaces (b : Bool) (l1 : List S42) (l2 : List ByteArray) (l3 : List Int) (key : ByteArray) (s1 : ∀ p ∈ l1, p.f0.size ≤ reachBytes ∧ p.f1.size ≤ reachBytes) : ∃ f, chandlerylaw08_NodePlaces.f f b l1 l2 l3 key = some true := by
  obtain ⟨r, hr, hfew⟩ := few_ev b l1 l2 l3
  refine Ev.rounds (g := fun k => chandlerylaw08_NodePlaces.f k b l1 l2 l3 key) ?_
  have hlet : Ev (fun k => chandlerylaw08_NodePlaces.j0 k key true b l1 l2 l3) true := Ev.step (f := fun _ => some true) (fun k => by rw [chandlerylaw08_NodePlaces.j0, if_pos rfl]) (Ev.now true)
  cases r
  · refine Ev.bind (f := fun k t => _) hr ?_
    exact Ev.congr (fun k => if_neg (by decide)) hlet
  have few := hfew rfl
  have n1 := few.n1
  have n2 := few.n2
  refine Ev.bind (f := fun k t => _) hr ?_
  refine Ev.congr (fun k => if_pos rfl) ?_
  by_cases hg : (key.size : Int) > 2000
  · rw [decide_eq_true hg]
    exact hlet
  rw [decide_eq_false hg]
  refine Ev.step (f := fun k => chandlerylaw08_NodePlaces.l0 k key ((0 + 1 : Nat) : Int) b l1 l2 l3) (fun k => by rw [chandlerylaw08_NodePlaces.j0, if_neg (by decide)]; congr 1) ?_
  -- the keys
  have hend : ∀ i, i = l2.length - 1 → Rises (kf l1) l1.length → Rises (kl l2) l2.length → Ev (fun k => chandlerylaw08_NodePlaces.l1 k key ((i + 1 : Nat) : Int) b l1 l2 l3) true := by
    intro i hi h1 h2
    obtain ⟨r, e1, e2⟩ := place_both b (l3 := l3) key (by omega) (by omega) h1 h2
    refine Ev.step (f := fun k => (node_Place.f k b l1 l2 l3 key).bind fun bt269 => (chandleryref08_Place.f k b l1 l2 l3 key).bind fun bt271 => (chandlerylaw08_awake.f k).bind fun t273 => if t273 = true then (if bt269.1 = bt271.1 then some (bt269.2 == bt271.2) else some false) else some false) (fun k => by rw [chandlerylaw08_NodePlaces.l1, if_neg (by omega)]) ?_
    refine Ev.bind (f := fun k t => _) e1 ?_
    refine Ev.bind (f := fun k t => _) e2 ?_
    refine Ev.bind (f := fun k t => _) awake_ev ?_
    refine Ev.congr (fun k => if_pos rfl) ?_
    refine Ev.congr (fun k => if_pos rfl) ?_
    rw [beq_self_eq_true]
    exact Ev.now true
  have hl1 : Rises (kf l1) l1.length → Ev (fun k => chandlerylaw08_NodePlaces.l1 k key ((0 + 1 : Nat) : Int) b l1 l2 l3) true := by
    intro h1
    by_cases h2 : Rises (kl l2) l2.length
    · refine ev_go (fun i k => chandlerylaw08_NodePlaces.l1 k key ((i + 1 : Nat) : Int) b l1 l2 l3) (l2.length - 1) (fun i hi k => ?_) (hend _ rfl h1 h2)
      have hlt : i + 1 < l2.length := by omega
      rw [chandlerylaw08_NodePlaces.l1, if_pos (by omega), if_pos (by omega), wm hlt (by omega), if_pos (by omega), if_pos (by omega), if_pos (show Op.bytesLess (rdOf ByteArray.empty l2 (i : Int)).toList (rdOf ByteArray.empty l2 ((i + 1 : Nat) : Int)).toList = true from h2 i hlt), w1 hlt (by omega)]
    · have hex : ∃ i, i + 1 < l2.length ∧ ¬ Op.bytesLess (kl l2 i) (kl l2 (i + 1)) = true := by
        refine Classical.byContradiction fun hc => h2 fun i hi => Classical.byContradiction fun hn => hc ⟨i, hi, hn⟩
      obtain ⟨j, hj, hno⟩ := hex
      refine ev_no (fun i k => chandlerylaw08_NodePlaces.l1 k key ((i + 1 : Nat) : Int) b l1 l2 l3) (l2.length - 1) (fun i => Op.bytesLess (kl l2 i) (kl l2 (i + 1)) = true) (fun i hi ho k => ?_) (fun i hi ho k => ?_) j (by omega) hno j 0 (by omega)
      · have hlt : i + 1 < l2.length := by omega
        rw [chandlerylaw08_NodePlaces.l1, if_pos (by omega), if_pos (by omega), wm hlt (by omega), if_pos (by omega), if_pos (by omega), if_pos (show Op.bytesLess (rdOf ByteArray.empty l2 (i : Int)).toList (rdOf ByteArray.empty l2 ((i + 1 : Nat) : Int)).toList = true from ho), w1 hlt (by omega)]
      · have hlt : i + 1 < l2.length := by omega
        rw [chandlerylaw08_NodePlaces.l1, if_pos (by omega), if_pos (by omega), wm hlt (by omega), if_pos (by omega), if_pos (by omega), if_neg (show ¬ Op.bytesLess (rdOf ByteArray.empty l2 (i : Int)).toList (rdOf ByteArray.empty l2 ((i + 1 : Nat) : Int)).toList = true from ho)]
  by_cases h1 : Rises (kf l1) l1.length
  · refine ev_go (fun i k => chandlerylaw08_NodePlaces.l0 k key ((i + 1 : Nat) : Int) b l1 l2 l3) (l1.length - 1) (fun i hi k => ?_) (Ev.step (f := fun k => chandlerylaw08_NodePlaces.l1 k key ((0 + 1 : Nat) : Int) b l1 l2 l3) (fun k => by rw [chandlerylaw08_NodePlaces.l0, if_neg (by omega)]; congr 1) (hl1 h1))
    have hlt : i + 1 < l1.length := by omega
    rw [chandlerylaw08_NodePlaces.l0, if_pos (by omega), if_pos (by omega), wm hlt (by omega), if_pos (by omega), if_pos (by omega), if_pos (show Op.bytesLess (rd_T42 l1 (i : Int)).f0.toList (rd_T42 l1 ((i + 1 : Nat) : Int)).f0.toList = true from h1 i hlt), w1 hlt (by omega)]
  · have hex : ∃ i, i + 1 < l1.length ∧ ¬ Op.bytesLess (kf l1 i) (kf l1 (i + 1)) = true := by
      refine Classical.byContradiction fun hc => h1 fun i hi => Classical.byContradiction fun hn => hc ⟨i, hi, hn⟩
    obtain ⟨j, hj, hno⟩ := hex
    refine ev_no (fun i k => chandlerylaw08_NodePlaces.l0 k key ((i + 1 : Nat) : Int) b l1 l2 l3) (l1.length - 1) (fun i => Op.bytesLess (kf l1 i) (kf l1 (i + 1)) = true) (fun i hi ho k => ?_) (fun i hi ho k => ?_) j (by omega) hno j 0 (by omega)
    · have hlt : i + 1 < l1.length := by omega
      rw [chandlerylaw08_NodePlaces.l0, if_pos (by omega), if_pos (by omega), wm hlt (by omega), if_pos (by omega), if_pos (by omega), if_pos (show Op.bytesLess (rd_T42 l1 (i : Int)).f0.toList (rd_T42 l1 ((i + 1 : Nat) : Int)).f0.toList = true from ho), w1 hlt (by omega)]
    · have hlt : i + 1 < l1.length := by omega
      rw [chandlerylaw08_NodePlaces.l0, if_pos (by omega), if_pos (by omega), wm hlt (by omega), if_pos (by omega), if_pos (by omega), if_neg (show ¬ Op.bytesLess (rd_T42 l1 (i : Int)).f0.toList (rd_T42 l1 ((i + 1 : Nat) : Int)).f0.toList = true from ho)]
end Go.Proofs.Ytjhenmegcgnkgaa.Pure
