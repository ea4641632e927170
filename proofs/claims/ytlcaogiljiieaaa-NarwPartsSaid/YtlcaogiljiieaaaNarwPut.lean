/- narw's writer: put. -/
import Derived.Test.YtlcaogiljiieaaaTreeCheck
import Derived.RangeFuncBox
import Derived.Maps.AppendAt
set_option linter.unusedVariables false
set_option linter.unusedSimpArgs false
namespace Go.Proofs.YtlcaogiljiieaaaX
open Go.RowKit Go.Maps Go.Proofs.YtlcaogiljiieaaaW.PrintWords Go.Proofs.YtlcaogiljiieaaaW.PrintLast Go.Proofs.YtlcaogiljiieaaaW.PrintMore
/-- The writer at block b: its entries, the place that is next, its texts (a row of its own behind b). -/
structure Wr (W : World) (b : Nat) (A : Option Addr) (n c : Nat) (i : Int) (xs : List ByteArray) : Prop where
  blk : ∃ v, W.heap[b]? = some (.cells #[.slice A n c, .int .i64 i, v] 60 (0, 0)) ∧ W.ownsRow b 9 1 v xs.length (xs.map Value.string)
/-- Whatever is neither the writer nor a row of texts stays. -/
structure Stays (b : Nat) (W W' : World) : Prop where
  below : Below b W W'
  same : ∀ k o, W.heap[k]? = some o → k ≠ b → (∀ cs, o ≠ .cells cs 9 (0, 0)) → W'.heap[k]? = some o
theorem Stays.refl (b : Nat) (W : World) : Stays b W W := ⟨Below.refl _ _, fun _ _ h _ _ => h⟩
theorem Stays.trans {b : Nat} {U V W : World} (h : Stays b U V) (k : Stays b V W) : Stays b U W := ⟨h.below.trans k.below, fun i o hi hb ho => k.same i o (h.same i o hi hb ho) hb ho⟩
theorem Stays.of_below {b : Nat} {W W' : World} (h : Below W.heap.size W W') (hb : b ≤ W.heap.size) : Stays b W W' := ⟨h.mono hb, fun k o hk _ _ => (h.block k (Array.getElem?_eq_some_iff.1 hk).1).trans hk⟩
theorem Wr.below {W W' : World} {b : Nat} {A : Option Addr} {n c : Nat} {i : Int} {xs : List ByteArray} (h : Wr W b A n c i xs) (hb : Below W.heap.size W W') : Wr W' b A n c i xs := by
  obtain ⟨v, h1, h2⟩ := h.blk
  exact ⟨v, blk_below h1 hb, h2.kept (row := none) ⟨hb.os, hb.tape, hb.output, hb.size, fun k hk _ => hb.block k hk⟩ (by cases v.ownBlock <;> simp)⟩
theorem Wr.lt {W : World} {b : Nat} {A : Option Addr} {n c : Nat} {i : Int} {xs : List ByteArray} (h : Wr W b A n c i xs) : b < W.heap.size := by
  obtain ⟨v, h1, _⟩ := h.blk
  exact (Array.getElem?_eq_some_iff.1 h1).1
theorem infoS : (Try.prog.info? 9).map (fun i => (i.zero, i.size, i.bytes)) = some (some (.string ⟨#[]⟩), 1, 16) := by kernel_rfl
theorem cells_of {W : World} {g : Nat} {ys : List ByteArray} (hc : ∀ (j : Nat) (h : j < ys.length), W.cell? ⟨g, j, none⟩ = some (.string ys[j])) : ∀ j u, (ys.map Value.string)[j]? = some u → W.cell? ((⟨g, 0, none⟩ : Addr).add j) = some u := by
  intro j u hu
  rw [List.getElem?_map] at hu
  obtain ⟨y, hy, rfl⟩ := Option.map_eq_some_iff.1 hu
  obtain ⟨hj, rfl⟩ := List.getElem?_eq_some_iff.1 hy
  have : (⟨g, 0, none⟩ : Addr).add j = ⟨g, j, none⟩ := by
    unfold Addr.add
    by_cases h0 : j = 0
    · simp [h0]
    · simp [h0]
  rw [this]
  exact hc j hj
theorem own_slice {w : World} {base e size n : Nat} {v : Value} {xs : List Value} (h : w.ownsRow base e size v n xs) : ∃ A m c, v = .slice A m c := by
  rcases h.2 with ⟨rfl, _⟩ | ⟨g, cap, cur, rfl, _⟩
  · exact ⟨_, _, _, rfl⟩
  · exact ⟨_, _, _, rfl⟩
theorem own_ne {W : World} {b t e : Nat} {cs : Array Value} {base n : Nat} {v : Value} {xs : List Value} (h1 : W.heap[b]? = some (.cells cs t (0, 0))) (ht : t ≠ e) (h2 : W.ownsRow base e 1 v n xs) : some b ≠ v.ownBlock := by
  intro he
  rcases h2.2 with ⟨rfl, _⟩ | ⟨g, cap, cur, rfl, _, hgb, _⟩
  · simp [Value.ownBlock] at he
  · have : b = g := by simpa [Value.ownBlock] using he
    subst this
    rw [h1] at hgb
    injection hgb with hgb
    injection hgb with _ hgb
    exact ht hgb
set_option maxHeartbeats 2000000 in
set_option maxRecDepth 100000 in
theorem put_calls (W : World) (b : Nat) (A : Option Addr) (n c : Nat) (i : Int) (xs ys : List ByteArray) (hW : Wr W b A n c i xs) (g m c' : Nat) (hm : m = ys.length)
    (hc : ∀ (j : Nat) (h : j < ys.length), W.cell? ⟨g, j, none⟩ = some (.string ys[j])) (hl : xs.length + ys.length ≤ 1000000) :
    Calls Try.prog 40 #[.pointer (some ⟨b, 0, none⟩), .slice (some ⟨g, 0, none⟩) m c'] W fun e W' => e = .returned (.tuple #[]) ∧ Wr W' b A n c i (xs ++ ys) ∧ Stays b W W' := by
  subst hm
  obtain ⟨v, h1, h2⟩ := hW.blk
  obtain ⟨A0, n0, k0, rfl⟩ := own_slice h2
  obtain ⟨i0, hi0, hz0, hz1, hz2⟩ := info_parts infoS
  have c2 : W.cell? ⟨b, 2, none⟩ = some (.slice A0 n0 k0) := (blk_cell h1 2).trans rfl
  have f2 := blk_frozen h1 2
  have hne := own_ne h1 (by decide) h2
  have H1 := Aside0.mk h1
  have H2 := Aside0.mk h2
  have HN := Aside0.mk hne
  have HC := Aside0.mk hc
  have hlt := Aside0.mk hW.lt
  clear h1 h2 hne hc
  go_enter Try.func40, Try.ntmps40
  go_wp2_with (at_builtin; go_loud (refine wpList_append_own_at _ rfl _ _ 30 rfl b 9 i0 (.string ⟨#[]⟩) 1 16 Try.underlying30 hi0 hz0 hz1 hz2 rfl (by decide) (.slice A0 n0 k0) xs.length (xs.map Value.string) rfl H2.out ⟨g, 0, none⟩ ys.length c' (ys.map Value.string) rfl ?ab ?ac ?ad ?ae ?af ?ag ?_); (case ab => simp); (case ac => exact cells_of HC.out); (case ad => intro u hu; obtain ⟨y, _, rfl⟩ := List.mem_map.1 hu; rfl); (case ae => unfold maxLen; omega); (case af => omega); (case ag => have := hlt.out; omega); intro v' w1 hown hg hnil hat; have HO := Aside0.mk hown; have HG := Aside0.mk hg; have HNI := Aside0.mk hnil; have c3 : w1.cell? ⟨b, 2, none⟩ = some (.slice A0 n0 k0) := (World.cell?_of_block (hg.block b hlt.out HN.out)).trans c2; have f3 : w1.frozen? ⟨b, 2, none⟩ = false := (World.frozen?_of_block (hg.block b hlt.out HN.out)).trans f2; have hv : ∃ A9 n9 k9, v' = .slice A9 n9 k9 := own_slice hown; clear hown hg hnil hat; obtain ⟨A9, n9, k9, rfl⟩ := hv)
  go_end0
  have h1' : w1.heap[b]? = some (.cells #[.slice A n c, .int .i64 i, .slice A0 n0 k0] 60 (0, 0)) := (HG.out.block b hlt.out HN.out).trans H1.out
  have hne' := own_ne h1' (by decide) HO.out
  have hgs : w1.grownBy (w1.setCell ⟨b, 2, none⟩ (.slice A9 n9 k9)) (some b) := ⟨rfl, rfl, rfl, ((Below.refl b w1).setCell (p := ⟨b, 2, none⟩) (Nat.le_refl _) _).size, fun k _ hk => Below.heap_setCell _ _ _ k (fun e => hk (by rw [e]))⟩
  have hbb : Below b W w1 := (Below.refl b W).grown HG.out (Nat.le_of_lt hlt.out) (fun k e => by
    rcases H2.out.2 with ⟨e', _⟩ | ⟨g, cap, cur, e', hb, _⟩
    · rw [e'] at e; simp [Value.ownBlock] at e
    · rw [e'] at e
      have : g = k := by simpa [Value.ownBlock] using e
      omega)
  refine ⟨rfl, ⟨_, blk_set h1' 2 _, by simpa using HO.out.kept hgs (.inr hne'.symm)⟩, hbb.setCell (p := ⟨b, 2, none⟩) (Nat.le_refl _) _, fun k o hk hkb hko => ?_⟩
  refine (Below.heap_setCell _ _ _ k hkb).trans ((HG.out.block k (Array.getElem?_eq_some_iff.1 hk).1 ?_).trans hk)
  intro e
  rcases H2.out.2 with ⟨e', _⟩ | ⟨g, cap, cur, e', _, hgb, _⟩
  · rw [e'] at e; simp [Value.ownBlock] at e
  · rw [e'] at e
    have : k = g := by simpa [Value.ownBlock] using e
    subst this
    rw [hk] at hgb
    injection hgb with hgb
    exact hko _ hgb
end Go.Proofs.YtlcaogiljiieaaaX
