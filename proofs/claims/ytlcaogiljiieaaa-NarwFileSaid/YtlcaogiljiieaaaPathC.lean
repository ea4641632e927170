/- fsys.names, fsys.Path: the walks. -/
import Derived.Test.YtlcaogiljiieaaaPathB
set_option linter.unusedVariables false
set_option linter.unusedSimpArgs false
namespace Go.Proofs.YtlcaogiljiieaaaX
open Go.RowKit Go.Shelf Go.Proofs.YtlcaogiljiieaaaW.PrintWords
attribute [local go_sem] Oper.semAt_some

set_option maxHeartbeats 1000000 in
theorem names_in (n : Nat) (s : ByteArray) (w : World) :
    CallsIn Fence.wide n Try.prog 74 #[.string s] w fun e w' => e = .returned (.func (.func 92) #[] #[.pointer (some ⟨w.heap.size, 0, none⟩)]) ∧ w' = w.alloc (.cells #[.string s] 9) := by
  refine callsIn_of_wp Try.func74 rfl trivial ?_ rfl
  simp only [Try.ntmps74, List.size_toArray, List.length_cons, List.length_nil, Nat.reduceAdd, Nat.reduceSub, Array.replicate_succ, Array.replicate_zero, List.push_toArray, List.append_toArray, List.nil_append, List.cons_append]
  gi_wp2
  go_ret
  exact ⟨rfl, rfl⟩

/-- One call of yield: the record is ready; the assignment; the body, which goes off its end or returns. -/
theorem yield_box {m l : Nat} {r : Loop} {args : Array Value} {W : World} {a₁ : Act} {R : Ending → World → Prop} (h : W.heap[l]? = some (.loop r)) (hr : r.state = .ready) (hs : args.size = r.params.size)
    (hass : ∀ K : Act → World → Prop, K a₁ W → r.assign.wpIn (Fence.wide.inRound l) m Try.prog (Exit.then K fun _ _ _ => False) { tmps := (r.params.zip args).foldl (fun t (p, v) => t.setIfInBounds p v) r.tmps, defers := [] } W)
    (hbody : r.body.wpIn (Fence.wide.inRound l) m Try.prog (fun e _ W' => W'.heap[l]? = some (.loop { r with state := .busy }) ∧ (match e with
      | .normal => R (.returned (.bool true)) (W'.putObj l (.loop { r with state := .ready, pending := none }))
      | .ret => R (.returned (.bool false)) (W'.putObj l (.loop { r with state := .done, pending := some .ret }))
      | _ => False)) a₁ (W.putObj l (.loop { r with state := .busy }))) :
    YieldAt Fence.wide m Try.prog l args W R := by
  refine ⟨r.fn, _, r.assign, r.body, run_yield h hs, roundIn_of_wpIn trivial (hass _ ⟨_, run_beginRound h hr, wpIn_mono hbody ?_⟩)⟩
  rintro e a3 W3 ⟨hl, he⟩
  cases e with
  | normal => exact ⟨_, _, run_endRound none hl, he⟩
  | ret => exact ⟨_, _, run_endRound (some .ret) hl, he⟩
  | exit id => exact he.elim
  | goto t => exact he.elim
  | panic ch => exact he.elim
  | outgrown => exact he.elim

/-- 'for name := range names(s)': what the body keeps between two rounds stands at the end; where it returns, what it has left. -/
theorem range_names {n : Nat} (hn : 3 ≤ n) {Q : Exit → Act → World → Prop} {a : Act} {w0 : World} {assign body : Code} {B : Nat} {s : ByteArray} {A : List ByteArray} (hs : s.size ≤ 140737488355328) (hA : (if s.toList = [] then [] else piecesB s) = A)
    (hg : a.eval (.tmp 7) = .func (.func 92) #[] #[.pointer (some ⟨B, 0, none⟩)]) (hB : Boxed w0 B 9 (.string s)) (I Ix : List ByteArray → World → Prop)
    (hI : ∀ pre W W' row, I pre W → W.grownBy W' row → (row = none ∨ row = some B ∨ ∃ r o, row = some r ∧ w0.heap.size ≤ r ∧ W.heap[r]? = some o ∧ o.isCells = false) → I pre W')
    (hIx : ∀ pre W W' r o, Ix pre W → W.grownBy W' (some r) → w0.heap.size ≤ r → W.heap[r]? = some o → o.isCells = false → Ix pre W')
    (h0 : I [] w0) (a₁ : ByteArray → Act)
    (hassign : ∀ (l : Nat) (x : ByteArray) (W : World) (K : Act → World → Prop), K (a₁ x) W → assign.wpIn (Fence.wide.inRound l) (n - 1 - 1) Try.prog (Exit.then K fun _ _ _ => False) { tmps := a.tmps.setIfInBounds 8 (.string x), defers := [] } W)
    (hbody : ∀ (l : Nat) (pre : List ByteArray) (x : ByteArray) (W : World), pre ++ [x] <+: A → I pre W → body.wpIn (Fence.wide.inRound l) (n - 1 - 1) Try.prog (fun e _ W' => KeepsFrom w0.heap.size W W' ∧ W'.heap[B]? = W.heap[B]? ∧ (match e with
      | .normal => I (pre ++ [x]) W'
      | .ret => Ix (pre ++ [x]) W'
      | _ => False)) (a₁ x) W)
    (hdone : ∀ (D : Nat) (W : World), w0.heap.size ≤ D → I A W → W.heap[D]? = some (.deferred (some [])) → Q .normal { a with defers := { target := .collected D, args := #[] } :: a.defers } W)
    (hstop : ∀ (D : Nat) (pre : List ByteArray) (W : World), w0.heap.size ≤ D → pre <+: A → Ix pre W → W.heap[D]? = some (.deferred (some [])) → Code.ret.wpIn Fence.wide n Try.prog Q { a with defers := { target := .collected D, args := #[] } :: a.defers } W) :
    (Code.rangeFunc (.tmp 7) #[8] assign body).wpIn Fence.wide n Try.prog Q a w0 := by
  refine wpIn_rangeFunc fun fn hfn => ?_
  obtain ⟨r0, hr0⟩ : ∃ r0 : Loop, r0 = { state := .ready, pending := none, fn := fn, tmps := a.tmps, params := #[8], assign := assign, body := body, defers := w0.heap.size } := ⟨_, rfl⟩
  have hB1 : B < w0.heap.size := hB.lt
  have hnew := World.alloc_heap_new w0 (.deferred (some []))
  have hnew2 := World.alloc_heap_new (w0.alloc (.deferred (some []))) (.loop r0)
  rw [World.size_alloc] at hnew2
  have hkD : ((w0.alloc (.deferred (some []))).alloc (.loop r0)).heap[w0.heap.size]? = some (.deferred (some [])) := (Below.heap_alloc _ _ _ (by simp)).trans hnew
  have hbx := (hB.alloc (.deferred (some []))).alloc (.loop r0)
  have hi0 : I [] ((w0.alloc (.deferred (some []))).alloc (.loop r0)) := hI _ _ _ none (hI _ _ _ none h0 (World.grownBy_alloc _ _ none) (.inl rfl)) (World.grownBy_alloc _ _ none) (.inl rfl)
  have hent := run_enterLoop_outer (P := Try.prog) (w := w0) fn a.tmps #[8] assign body
  rw [← hr0] at hent
  refine ⟨_, _, (w0.alloc (.deferred (some []))).alloc (.loop r0), { target := .fn (.func 92) #[.pointer (some ⟨B, 0, none⟩)], args := #[.func (.yield (w0.heap.size + 1)) #[] #[]] }, (w0.alloc (.deferred (some []))).alloc (.loop r0), 92, #[.func (.yield (w0.heap.size + 1)) #[] #[], .pointer (some ⟨B, 0, none⟩)], (w0.alloc (.deferred (some []))).alloc (.loop r0), hent, ?_, fun _ _ => trivial, ?_, fun _ => by omega, ?_⟩
  · simp only [resolve, hg]
    simp [go_sem]
  · have eg := enters_of Try.func92 (by kernel_rfl) rfl
    simp [invoke, go_sem, eg]
  · have hD0 : w0.heap.size ≠ B := by omega
    have hD1 : w0.heap.size + 1 ≠ B := by omega
    refine (names1_in Fence.wide (n - 1) rfl (by omega) (w0.heap.size + 1) B s hs A hA
      (fun pre W => I pre W ∧ W.heap[w0.heap.size + 1]? = some (.loop r0) ∧ W.heap[w0.heap.size]? = some (.deferred (some [])))
      (fun pre W => Ix pre W ∧ W.heap[w0.heap.size + 1]? = some (.loop { r0 with state := .done, pending := some .ret }) ∧ W.heap[w0.heap.size]? = some (.deferred (some []))) ?_ ?_ _ hbx ⟨hi0, hnew2, hkD⟩).mono ?_
    · rintro pre W W' row ⟨hi, hl, hd⟩ hgr hrow
      have hne : ∀ k, k ≠ B → some k ≠ row := by
        intro k hk e
        rcases hrow with rfl | rfl
        · cases e
        · exact hk (Option.some.inj e)
      exact ⟨hI _ _ _ row hi hgr (hrow.imp id .inl), (hgr.block _ (Array.getElem?_eq_some_iff.1 hl).1 (hne _ hD1)).trans hl, (hgr.block _ (Array.getElem?_eq_some_iff.1 hd).1 (hne _ hD0)).trans hd⟩
    · rintro pre x W hpre ⟨hi, hl, hd⟩
      have hlt : w0.heap.size + 1 < W.heap.size := (Array.getElem?_eq_some_iff.1 hl).1
      refine yield_box hl (by rw [hr0]) (by rw [hr0]; rfl) (a₁ := a₁ x) (by rw [hr0]; intro K hK; have h8 := hassign (w0.heap.size + 1) x W K hK; simpa using h8) ?_
      have hl2 : (W.putObj (w0.heap.size + 1) (.loop { r0 with state := .busy })).heap[w0.heap.size + 1]? = some (.loop { r0 with state := .busy }) := World.putObj_heap_same hlt
      have hd2 : (W.putObj (w0.heap.size + 1) (.loop { r0 with state := .busy })).heap[w0.heap.size]? = some (.deferred (some [])) := (World.putObj_heap_other (by omega)).trans hd
      have hB2 : (W.putObj (w0.heap.size + 1) (.loop { r0 with state := .busy })).heap[B]? = W.heap[B]? := World.putObj_heap_other (by omega)
      have hi2 := hI _ _ _ _ hi (grownBy_putObj' W (w0.heap.size + 1) (.loop { r0 with state := .busy })) (.inr (.inr ⟨_, _, rfl, by omega, hl, rfl⟩))
      have hb := hbody (w0.heap.size + 1) pre x _ hpre hi2
      rw [show body = r0.body by rw [hr0]] at hb
      refine wpIn_mono hb ?_
      rintro e a3 W3 ⟨hk, hB3, he⟩
      have hl3 := hk.same _ _ (by omega) hl2 rfl
      have hd3 := hk.same _ _ (Nat.le_refl _) hd2 rfl
      refine ⟨hl3, ?_⟩
      have hlt3 : w0.heap.size + 1 < W3.heap.size := (Array.getElem?_eq_some_iff.1 hl3).1
      cases e with
      | normal => exact .inl ⟨rfl, ⟨hI _ _ _ _ he (grownBy_putObj' W3 _ _) (.inr (.inr ⟨_, _, rfl, by omega, hl3, rfl⟩)), by rw [World.putObj_heap_same hlt3, hr0], (World.putObj_heap_other (by omega)).trans hd3⟩, ((World.putObj_heap_other (by omega)).trans hB3).trans hB2⟩
      | ret => exact .inr ⟨rfl, hIx _ _ _ _ _ he (grownBy_putObj' W3 _ _) (by omega) hl3 rfl, World.putObj_heap_same hlt3, (World.putObj_heap_other (by omega)).trans hd3⟩
      | exit id => exact he.elim
      | goto t => exact he.elim
      | panic ch => exact he.elim
      | outgrown => exact he.elim
    · rintro e W2 ⟨⟨v, rfl⟩, (⟨hi, hl, hd⟩ | ⟨pre, hpre, hi, hl, hd⟩)⟩
      · have hend := run_endLoop (P := Try.prog) hl (by rw [hr0]; simp)
        refine ⟨_, _, hend, ?_⟩
        rw [show r0.pending = none by rw [hr0]]
        exact hdone _ _ (Nat.le_refl _) (hI _ _ _ _ hi (grownBy_putObj' W2 _ _) (.inr (.inr ⟨_, _, rfl, by omega, hl, rfl⟩))) ((World.putObj_heap_other (by omega)).trans hd)
      · have hend := run_endLoop (P := Try.prog) hl (by simp)
        refine ⟨_, _, hend, ?_⟩
        exact hstop _ pre _ (Nat.le_refl _) hpre (hIx _ _ _ _ _ hi (grownBy_putObj' W2 _ _) (by omega) hl rfl) ((World.putObj_heap_other (by omega)).trans hd)
end Go.Proofs.YtlcaogiljiieaaaX
