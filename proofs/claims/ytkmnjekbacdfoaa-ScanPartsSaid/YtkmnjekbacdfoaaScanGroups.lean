/- A map of texts' rows that the call has made: looking up, and the way back behind an append: run-level laws. -/
import Derived.Test.YtkmnjekbacdfoaaShelf
import Derived.Test.YtkmnjekbacdfoaaWWords
import Derived.Maps.Keyed
import Derived.Maps.AppendAt
import Derived.ChangeMaps5
set_option linter.unusedVariables false
set_option linter.unusedSimpArgs false
namespace Go.Proofs.YtkmnjekbacdfoaaX
open Go.RowKit Go.Maps Go.ChangeMaps Go.MapKept Go.Proofs.YtkmnjekbacdfoaaW.PrintWords

/-- Block mb is a map of at most n entries, each a row of the call's own: at the key k the texts G k; keys that are there are those at which G tells some. -/
structure Grp (W : World) (mb base n : Nat) (G : ByteArray → List ByteArray) : Prop where
  map : ∃ es clock, W.heap[mb]? = some (.map es clock) ∧ es.size ≤ n ∧
    (∀ x ∈ es.toList, ∃ k : ByteArray, x.key = .string k ∧ k.size ≤ 1000 ∧ G k ≠ [] ∧ W.ownsRow base 9 1 x.val (G k).length ((G k).map Value.string)) ∧
    (∀ k, G k ≠ [] → ∃ x ∈ es.toList, x.key = .string k) ∧
    es.toList.Pairwise (fun x y => x.key ≠ y.key ∧ x.val.ownBlock ≠ y.val.ownBlock)
  low : mb < base
  few : ∀ k, (G k).length ≤ n
theorem str_inj {a b : ByteArray} (h : Value.string a = Value.string b) : a = b := by injection h
theorem keyed9 : Keyed Try.prog 9 := string_keyed Try.underlying9
theorem grp_new (W : World) : Grp (W.alloc (.map #[] 0)) W.heap.size (W.heap.size + 1) 0 (fun _ => []) :=
  ⟨⟨#[], 0, (heap_alloc W _).1, Nat.le_refl _, by simp, fun k h => absurd rfl h, by simp⟩, Nat.lt_succ_self _, fun _ => Nat.le_refl _⟩
theorem own_some {W : World} {base : Nat} {e : TypeId} {v : Value} {zs : List ByteArray} (h : W.ownsRow base e 1 v zs.length (zs.map Value.string)) (hz : zs ≠ []) : ∃ g, v.ownBlock = some g ∧ base ≤ g ∧ g < W.heap.size := by
  rcases h.2 with ⟨rfl, h0⟩ | ⟨g, cap, cur, rfl, hb, hgb, _⟩
  · exact absurd (List.eq_nil_of_length_eq_zero h0) hz
  · exact ⟨g, rfl, hb, (Array.getElem?_eq_some_iff.1 hgb).1⟩
/-- It stands where nothing below the call's own blocks, nor the rows, has turned. -/
theorem Grp.kept {W W' : World} {mb base n : Nat} {G : ByteArray → List ByteArray} (h : Grp W mb base n G) {row : Option Nat} (hg : W.grownBy W' row) (hm : some mb ≠ row)
    (hr : ∀ r, row = some r → ∀ k zs, W.heap[r]? ≠ some (.cells k 9 zs)) : Grp W' mb base n G := by
  obtain ⟨⟨es, clock, hb, hn, hx, hk, hp⟩, hl, hf⟩ := h
  have hlt : mb < W.heap.size := (Array.getElem?_eq_some_iff.1 hb).1
  refine ⟨⟨es, clock, (hg.block mb hlt hm).trans hb, hn, fun x hxm => ?_, hk, hp⟩, hl, hf⟩
  obtain ⟨k, h1, h2, h3, h4⟩ := hx x hxm
  refine ⟨k, h1, h2, h3, h4.kept hg ?_⟩
  rcases h4.2 with ⟨hv, _⟩ | ⟨g, cap, cur, hv, hb2, hgb, _⟩
  · rw [hv]; exact .inl rfl
  · refine .inr fun e => ?_
    rw [hv] at e
    exact hr g (by simpa [Value.ownBlock] using e.symm) _ _ hgb
theorem set_who {l : List MapEntry} {j : Nat} {e x y : MapEntry} (hp : l.Pairwise (fun x y => x.key ≠ y.key ∧ x.val.ownBlock ≠ y.val.ownBlock)) (hj : l[j]? = some e) (hx : x ∈ l.set j y) : x = y ∨ (x ∈ l ∧ x.key ≠ e.key ∧ x.val.ownBlock ≠ e.val.ownBlock) := by
  obtain ⟨i, hi, hix⟩ := List.mem_iff_getElem.1 hx
  rw [List.length_set] at hi
  obtain ⟨hjl, hje⟩ := List.getElem?_eq_some_iff.1 hj
  rw [List.getElem_set] at hix
  split at hix
  · exact .inl hix.symm
  · rename_i hne
    refine .inr ⟨by rw [← hix]; exact List.getElem_mem hi, ?_⟩
    rcases Nat.lt_or_gt_of_ne (Ne.symm hne) with h | h
    · have := List.pairwise_iff_getElem.1 hp i j hi hjl h
      rw [hix, hje] at this
      exact this
    · have := List.pairwise_iff_getElem.1 hp j i hjl hi h
      rw [hix, hje] at this
      exact ⟨Ne.symm this.1, Ne.symm this.2⟩
theorem set_keeps {l : List MapEntry} {j : Nat} {e x y : MapEntry} (hj : l[j]? = some e) (hx : x ∈ l) (hne : x ≠ e) : x ∈ l.set j y := by
  obtain ⟨i, hi, hix⟩ := List.mem_iff_getElem.1 hx
  obtain ⟨hjl, hje⟩ := List.getElem?_eq_some_iff.1 hj
  have hij : j ≠ i := fun h => hne (by subst h; rw [← hix, ← hje])
  refine List.mem_iff_getElem.2 ⟨i, by rw [List.length_set]; exact hi, ?_⟩
  rw [List.getElem_set_ne hij]
  exact hix
theorem set_new {l : List MapEntry} {j : Nat} {e y : MapEntry} (hj : l[j]? = some e) : y ∈ l.set j y := by
  obtain ⟨hjl, _⟩ := List.getElem?_eq_some_iff.1 hj
  exact List.mem_iff_getElem.2 ⟨j, by rw [List.length_set]; exact hjl, List.getElem_set_self _⟩
theorem set_pairs {l : List MapEntry} {j : Nat} {e y : MapEntry} (hp : l.Pairwise (fun x y => x.key ≠ y.key ∧ x.val.ownBlock ≠ y.val.ownBlock)) (hj : l[j]? = some e)
    (hy : ∀ x ∈ l, x.key ≠ e.key → x.val.ownBlock ≠ e.val.ownBlock → x.key ≠ y.key ∧ x.val.ownBlock ≠ y.val.ownBlock) : (l.set j y).Pairwise (fun x y => x.key ≠ y.key ∧ x.val.ownBlock ≠ y.val.ownBlock) := by
  obtain ⟨hjl, hje⟩ := List.getElem?_eq_some_iff.1 hj
  refine List.pairwise_iff_getElem.2 fun a b ha hb hab => ?_
  rw [List.length_set] at ha hb
  rw [List.getElem_set, List.getElem_set]
  by_cases h1 : j = a
  · subst h1
    rw [if_pos rfl, if_neg (by omega)]
    have := List.pairwise_iff_getElem.1 hp j b ha hb hab
    rw [hje] at this
    have := hy l[b] (List.getElem_mem hb) (Ne.symm this.1) (Ne.symm this.2)
    exact ⟨Ne.symm this.1, Ne.symm this.2⟩
  · rw [if_neg h1]
    by_cases h2 : j = b
    · subst h2
      rw [if_pos rfl]
      have := List.pairwise_iff_getElem.1 hp a j ha hb hab
      rw [hje] at this
      exact hy l[a] (List.getElem_mem ha) this.1 this.2
    · rw [if_neg h2]
      exact List.pairwise_iff_getElem.1 hp a b ha hb hab
/-- Looking up, and the way back. -/
theorem Grp.look {W : World} {mb base n : Nat} {G : ByteArray → List ByteArray} (h : Grp W mb base n G) (d : ByteArray) (hd : d.size ≤ 1000) (hn : n ≤ 1000000) : ∃ v, W.ownsRow base 9 1 v (G d).length ((G d).map Value.string) ∧ v.ownBlock ≠ some mb ∧
    (∀ (c : Bool) (W' : World), W'.heap[mb]? = W.heap[mb]? → (Instr.lookup 42 (.map (some mb)) (.string d) c).run Try.prog W' = .ok (if c then .tuple #[v, .bool (decide (G d ≠ []))] else v) W') ∧
    (∀ (W1 : World) (v' : Value) (zs' : List ByteArray), zs' ≠ [] → zs'.length ≤ n + 1 → W.grownBy W1 v.ownBlock → W1.ownsRow base 9 1 v' zs'.length (zs'.map Value.string) → (v'.ownBlock = v.ownBlock ∨ ∃ g, v'.ownBlock = some g ∧ W.heap.size ≤ g) →
      ∃ W2, (Instr.mapUpdate 42 (.map (some mb)) (.string d) v').run Try.prog W1 = .ok () W2 ∧ Grp W2 mb base (n + 1) (fun k => if k = d then zs' else G k) ∧ W1.grownBy W2 (some mb)) := by
  obtain ⟨⟨es, clock, hb, hen, hx, hk, hp⟩, hl, hf⟩ := h
  have K := keyed9
  have hkey : keyOf Try.prog 9 (.string d) = some (.string d.data.toList) := WideMaps.keyOf_string_mk Try.underlying9 (by unfold maxLen; omega)
  have hkeys : ∀ e ∈ es.toList, ∃ l, keyOf Try.prog 9 e.key = some l := fun e he => by
    obtain ⟨k, h1, h2, _⟩ := hx e he
    exact ⟨_, by rw [h1]; exact WideMaps.keyOf_string_mk Try.underlying9 (by unfold maxLen; omega)⟩
  have hblt : mb < W.heap.size := (Array.getElem?_eq_some_iff.1 hb).1
  by_cases hex : ∃ e0 ∈ es.toList, e0.key = .string d
  · obtain ⟨e0, he0, hk0⟩ := hex
    obtain ⟨k, h1, h2, h3, h4⟩ := hx e0 he0
    have hkd : k = d := str_inj (h1.symm.trans hk0)
    subst hkd
    obtain ⟨g0, hg0, hg1, hg2⟩ := own_some h4 h3
    have honly : ∀ e ∈ es.toList, e.key = .string k → e = e0 := by
      intro e he hek
      by_cases hne : e = e0
      · exact hne
      · obtain ⟨i, hi, hie⟩ := List.mem_iff_getElem.1 he
        obtain ⟨j, hj, hje⟩ := List.mem_iff_getElem.1 he0
        have hij : i ≠ j := fun hij => hne (by subst hij; rw [← hie, ← hje])
        rcases Nat.lt_or_gt_of_ne hij with hlt | hlt
        · exact absurd (by rw [hie, hje, hek, hk0]) (List.pairwise_iff_getElem.1 hp i j hi hj hlt).1
        · exact absurd (by rw [hie, hje, hek, hk0]) (List.pairwise_iff_getElem.1 hp j i hj hi hlt).1
    refine ⟨e0.val, h4, by rw [hg0]; intro e; injection e with e; omega, fun c W' hW' => ?_, fun W1 v' zs' hz hzl hg hown' hloc => ?_⟩
    · rcases K.find W' hkey es.toList hkeys with ⟨_, h6⟩ | ⟨j, e, h5, h6, h7⟩
      · exact absurd hk0 (h6 e0 he0)
      · have he : e = e0 := honly e (List.mem_of_getElem? h6) h7
        subst he
        have hb' : W'.heap[mb]? = some (.map es clock) := hW'.trans hb
        cases c <;> simp [Instr.lookup, run_underlying Try.underlying42, MapKept.run_getObj_map hb', K.check W' _ hkey, h5, Result.andThen, h3]
    · have hb1 : W1.heap[mb]? = some (.map es clock) := (hg.block mb hblt (fun e => by rw [hg0] at e; injection e with e; omega)).trans hb
      rcases K.find W1 hkey es.toList hkeys with ⟨_, h6⟩ | ⟨j, e, h5, h6, h7⟩
      · exact absurd hk0 (h6 e0 he0)
      · have he : e = e0 := honly e (List.mem_of_getElem? h6) h7
        subst he
        have hj : es[j]? = some e := by simpa using h6
        have hlist : (es.modify j (fun e' => { e' with key := .string k, val := v' })).toList = es.toList.set j { e with key := .string k, val := v' } := by rw [Array.toList_modify, modify_eq_set _ _ _ _ h6]
        refine ⟨setBlock W1 mb (.map (es.modify j (fun e' => { e' with key := .string k, val := v' })) clock), ?_, ?_, ?_⟩
        · simp [Instr.mapUpdate, run_underlying Try.underlying42, MapKept.run_getObj_map hb1, K.check W1 false hkey, h5, hj, h7, K.stays W1 hkey, MapKept.run_setObj_map _ hb1, Result.andThen, setBlock]
        · have hg2 : W1.grownBy (setBlock W1 mb (.map (es.modify j (fun e' => { e' with key := .string k, val := v' })) clock)) (some mb) := ⟨rfl, rfl, rfl, by simp [setBlock], fun i _ hi => heap_setBlock_other hb1 _ (fun e1 => hi (by rw [e1]))⟩
          have hfar : ∀ {u : Value} {g : Nat}, u.ownBlock = some g → base ≤ g → u.ownBlock = none ∨ u.ownBlock ≠ some mb := fun hu hgb => .inr (by rw [hu]; intro e1; injection e1 with e1; omega)
          refine ⟨⟨_, clock, heap_setBlock_same hb1 _, by rw [Array.size_modify]; omega, fun x hxm => ?_, fun q hq => ?_, ?_⟩, hl, fun q => ?_⟩
          · rw [hlist] at hxm
            rcases set_who hp h6 hxm with rfl | ⟨hxe, hxk, hxb⟩
            · refine ⟨k, rfl, h2, by simp only [if_pos]; exact hz, ?_⟩
              simp only [if_pos]
              obtain ⟨g', hg', hb', _⟩ := own_some hown' hz
              exact hown'.kept hg2 (hfar hg' hb')
            · obtain ⟨q, q1, q2, q3, q4⟩ := hx x hxe
              have hqk : q ≠ k := fun hc => hxk (by rw [q1, h7, hc])
              refine ⟨q, q1, q2, by simp only [if_neg hqk]; exact q3, ?_⟩
              simp only [if_neg hqk]
              obtain ⟨g', hg', hb', _⟩ := own_some q4 q3
              exact (q4.kept hg (.inr hxb)).kept hg2 (hfar hg' hb')
          · rw [hlist]
            by_cases hqk : q = k
            · exact ⟨_, set_new h6, by rw [hqk]⟩
            · simp only [if_neg hqk] at hq
              obtain ⟨x, hxm, hxk⟩ := hk q hq
              exact ⟨x, set_keeps h6 hxm (fun hc => hqk (str_inj (by rw [← hxk, hc, h7]))), hxk⟩
          · rw [hlist]
            refine set_pairs hp h6 fun x hxm hxk hxb => ⟨by rw [← h7]; exact hxk, ?_⟩
            show x.val.ownBlock ≠ v'.ownBlock
            rcases hloc with hloc | ⟨g', hg', hgl⟩
            · rw [hloc]; exact hxb
            · obtain ⟨q, _, _, q3, q4⟩ := hx x hxm
              obtain ⟨g3, hg3, _, hlt3⟩ := own_some q4 q3
              rw [hg3, hg']
              intro e1
              injection e1 with e1
              omega
          · split
            · exact hzl
            · have := hf q; omega
        · exact ⟨rfl, rfl, rfl, by simp [setBlock], fun i _ hi => heap_setBlock_other hb1 _ (fun e1 => hi (by rw [e1]))⟩
  · have hno : ∀ e ∈ es.toList, e.key ≠ .string d := fun e he hc => hex ⟨e, he, hc⟩
    have hG : G d = [] := Classical.byContradiction fun hc => by
      obtain ⟨x, hxm, hxk⟩ := hk d hc
      exact hno x hxm hxk
    refine ⟨.slice none 0 0, by rw [hG]; exact World.ownsRow_nil _ _ _ _, by simp [Value.ownBlock], fun c W' hW' => ?_, fun W1 v' zs' hz hzl hg hown' hloc => ?_⟩
    · rcases K.find W' hkey es.toList hkeys with ⟨h5, _⟩ | ⟨j, e, _, h6, h7⟩
      · have hb' : W'.heap[mb]? = some (.map es clock) := hW'.trans hb
        have hz := Try.zeroValue23 W'
        cases c <;> simp [Instr.lookup, run_underlying Try.underlying42, MapKept.run_getObj_map hb', K.check W' _ hkey, h5, hz, Result.andThen, hG]
      · exact absurd h7 (hno e (List.mem_of_getElem? h6))
    · have hb1 : W1.heap[mb]? = some (.map es clock) := (hg.block mb hblt (by simp [Value.ownBlock])).trans hb
      rcases K.find W1 hkey es.toList hkeys with ⟨h5, _⟩ | ⟨j, e, _, h6, h7⟩
      · refine ⟨setBlock W1 mb (.map (es.push ⟨.string d, v', clock⟩) (clock + 1)), ?_, ?_, ?_⟩
        · simp [Instr.mapUpdate, run_underlying Try.underlying42, MapKept.run_getObj_map hb1, K.check W1 false hkey, h5, MapKept.run_setObj_map _ hb1, Result.andThen, setBlock]
        · have hg2 : W1.grownBy (setBlock W1 mb (.map (es.push ⟨.string d, v', clock⟩) (clock + 1))) (some mb) := ⟨rfl, rfl, rfl, by simp [setBlock], fun i _ hi => heap_setBlock_other hb1 _ (fun e1 => hi (by rw [e1]))⟩
          have hfar : ∀ {u : Value} {g : Nat}, u.ownBlock = some g → base ≤ g → u.ownBlock = none ∨ u.ownBlock ≠ some mb := fun hu hgb => .inr (by rw [hu]; intro e1; injection e1 with e1; omega)
          refine ⟨⟨_, clock + 1, heap_setBlock_same hb1 _, by rw [Array.size_push]; omega, fun x hxm => ?_, fun q hq => ?_, ?_⟩, hl, fun q => ?_⟩
          · rw [Array.toList_push] at hxm
            rcases List.mem_append.1 hxm with hxe | hxe
            · obtain ⟨q, q1, q2, q3, q4⟩ := hx x hxe
              have hqk : q ≠ d := fun hc => hno x hxe (by rw [q1, hc])
              refine ⟨q, q1, q2, by simp only [if_neg hqk]; exact q3, ?_⟩
              simp only [if_neg hqk]
              obtain ⟨g', hg', hb', _⟩ := own_some q4 q3
              exact (q4.kept hg (.inr (by rw [hg']; simp [Value.ownBlock]))).kept hg2 (hfar hg' hb')
            · rw [List.mem_singleton.1 hxe]
              refine ⟨d, rfl, hd, by simp only [if_pos]; exact hz, ?_⟩
              simp only [if_pos]
              obtain ⟨g', hg', hb', _⟩ := own_some hown' hz
              exact hown'.kept hg2 (hfar hg' hb')
          · rw [Array.toList_push]
            by_cases hqk : q = d
            · exact ⟨⟨.string d, v', clock⟩, by simp, by rw [hqk]⟩
            · simp only [if_neg hqk] at hq
              obtain ⟨x, hxm, hxk⟩ := hk q hq
              exact ⟨x, List.mem_append_left _ hxm, hxk⟩
          · rw [Array.toList_push, List.pairwise_append]
            refine ⟨hp, List.pairwise_singleton _ _, fun x hxm y hy => ?_⟩
            rw [List.mem_singleton.1 hy]
            refine ⟨hno x hxm, ?_⟩
            show x.val.ownBlock ≠ v'.ownBlock
            obtain ⟨q, _, _, q3, q4⟩ := hx x hxm
            obtain ⟨g3, hg3, _, hlt3⟩ := own_some q4 q3
            obtain ⟨g', hg', _, _⟩ := own_some hown' hz
            rcases hloc with hloc | ⟨g4, hg4, hgl⟩
            · rw [hloc, hg3]; simp [Value.ownBlock]
            · rw [hg3, hg4]
              intro e1
              injection e1 with e1
              omega
          · split
            · exact hzl
            · have := hf q; omega
        · exact ⟨rfl, rfl, rfl, by simp [setBlock], fun i _ hi => heap_setBlock_other hb1 _ (fun e1 => hi (by rw [e1]))⟩
      · exact absurd h7 (hno e (List.mem_of_getElem? h6))
end Go.Proofs.YtkmnjekbacdfoaaX
