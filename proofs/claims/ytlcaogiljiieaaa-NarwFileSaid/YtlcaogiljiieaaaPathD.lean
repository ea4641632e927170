/- fsys.Path: the walk. -/
import Derived.Test.YtlcaogiljiieaaaPathC
set_option linter.unusedVariables false
set_option linter.unusedSimpArgs false
namespace Go.Proofs.YtlcaogiljiieaaaX
open Go.RowKit Go.Shelf Go.Proofs.YtlcaogiljiieaaaW.PrintWords
attribute [local go_sem] Oper.semAt_some

def pathNames (s : ByteArray) : List ByteArray := if s.toList = [] then [] else piecesB s
def pathF (s : ByteArray) : List ByteArray × Int := if (pathNames s).all namedB = true ∧ (s.toList = [] ∨ s.size ≤ 1000) then (pathNames s, 0) else ([], 1)
theorem infoStr : (Try.prog.info? 9).map (fun i => (i.zero, i.size, i.bytes)) = some (some (.string ⟨#[]⟩), 1, 16) := by kernel_rfl

theorem parts_le : ∀ l : List UInt8, (parts l).length ≤ l.length + 1
  | [] => by simp [parts]
  | c :: l => by
    have ih := parts_le l
    rw [parts]
    split
    · simp only [List.length_cons]; omega
    · split
      · simp
      · rename_i h; rw [h] at ih; simp only [List.length_cons] at *; omega
theorem pathNames_le (s : ByteArray) : (pathNames s).length ≤ s.size + 1 := by
  unfold pathNames
  split
  · simp
  · unfold piecesB
    rw [List.length_map]
    have := parts_le s.data.toList
    rw [Array.length_toList] at this
    exact this

/-- Between two rounds: the boxes of the path, of the two results, of the names so far. -/
structure PathI (w : World) (s : ByteArray) (pre : List ByteArray) (W : World) : Prop where
  path : Boxed W w.heap.size 9 (.string s)
  r1 : Boxed W (w.heap.size + 1) 30 (.slice none 0 0)
  r2 : Boxed W (w.heap.size + 1 + 1) 24 (.int .i64 0)
  out : ∃ v, Boxed W (w.heap.size + 1 + 1 + 1) 30 v ∧ W.ownsRow (w.heap.size + 5) 9 1 v pre.length (pre.map Value.string)
  below : Below w.heap.size w W
  ok : ∀ x ∈ pre, namedB x = true
  short : pre ≠ [] → s.size ≤ 1000
  room : w.heap.size + 5 ≤ W.heap.size
/-- A round has returned. -/
structure PathX (w : World) (s : ByteArray) (pre : List ByteArray) (W : World) : Prop where
  r1 : Boxed W (w.heap.size + 1) 30 (.slice none 0 0)
  r2 : Boxed W (w.heap.size + 1 + 1) 24 (.int .i64 1)
  below : Below w.heap.size w W
  bad : (∃ x ∈ pre, namedB x = false) ∨ 1000 < s.size
theorem PathI.kept {w : World} {s : ByteArray} {pre : List ByteArray} {W W' : World} {row : Option Nat} (h : PathI w s pre W) (hg : W.grownBy W' row)
    (hr : row = none ∨ row = some (w.heap.size + 4) ∨ ∃ r o, row = some r ∧ w.heap.size + 5 ≤ r ∧ W.heap[r]? = some o ∧ o.isCells = false) : PathI w s pre W' := by
  have hne : ∀ k, k < w.heap.size + 4 → some k ≠ row := by
    intro k hk e
    rcases hr with rfl | rfl | ⟨r, o, rfl, hr, _, _⟩
    · cases e
    · injection e with e; omega
    · injection e with e; omega
  obtain ⟨h1, h2, h3, ⟨v, h4, h5⟩, h6, h7, h8, h10⟩ := h
  refine ⟨h1.kept hg (hne _ (by omega)), h2.kept hg (hne _ (by omega)), h3.kept hg (hne _ (by omega)), ⟨v, h4.kept hg (hne _ (by omega)), h5.kept hg ?_⟩, h6.grown hg h6.size (fun k e => ?_), h7, h8, Nat.le_trans h10 hg.size⟩
  · rcases h5.2 with ⟨rfl, _⟩ | ⟨g, cap, cur, rfl, hb, hgb, _⟩
    · exact .inl rfl
    · refine .inr fun e => ?_
      rcases hr with rfl | rfl | ⟨r, o, rfl, hr, ho, hc⟩
      · simp [Value.ownBlock] at e
      · have : g = w.heap.size + 4 := by simpa [Value.ownBlock] using e
        omega
      · have : g = r := by simpa [Value.ownBlock] using e
        subst this
        rw [hgb] at ho
        injection ho with ho
        subst ho
        cases hc
  · rcases Nat.lt_or_ge k w.heap.size with hk | hk
    · exact absurd e.symm (hne k (by omega))
    · exact hk
theorem PathX.kept {w : World} {s : ByteArray} {pre : List ByteArray} {W W' : World} {r : Nat} (h : PathX w s pre W) (hg : W.grownBy W' (some r)) (hr : w.heap.size + 5 ≤ r) : PathX w s pre W' :=
  ⟨h.r1.kept hg (by simp; omega), h.r2.kept hg (by simp; omega), h.below.grown hg h.below.size (fun k e => by injection e with e; omega), h.bad⟩
theorem below_boxed {W W' : World} {B t : Nat} {v : Value} (h : Boxed W B t v) (hb : Below W.heap.size W W') : Boxed W' B t v := (hb.block _ h.lt).trans h
theorem below_keeps {W W' : World} (hb : Below W.heap.size W W') (B : Nat) : KeepsFrom B W W' := ⟨hb.size, fun k o _ hk _ => (hb.block k (Array.getElem?_eq_some_iff.1 hk).1).trans hk⟩

set_option maxRecDepth 100000 in
set_option maxHeartbeats 4000000 in
theorem path_calls (s : ByteArray) (w : World) (hs : s.size ≤ 1000000) :
    Calls Try.prog 62 #[.string s] w fun e w' => ∃ v, e = .returned (.tuple #[v, .int .i64 (pathF s).2]) ∧ Kd.R Kd.string 9 w' w.heap.size (fun _ => True) v (pathF s).1 ∧ Below w.heap.size w w' := by
  refine (callsIn_wide (n := 5)).1 ?_
  refine callsIn_of_wp_marks Try.func62 rfl trivial ?_ rfl
  simp only [Try.ntmps62, List.size_toArray, List.length_cons, List.length_nil, Nat.reduceAdd, Nat.reduceSub, Array.replicate_succ, Array.replicate_zero, List.push_toArray, List.append_toArray, List.nil_append, List.cons_append]
  gi_wp2_with (refine ⟨trivial, ?_⟩; gi_at_call 74; refine (names_in _ _ _).mono ?_; rintro e w' ⟨rfl, rfl⟩)
  have b0 := ((((Boxed.new w 9 (.string s)).alloc (.cells #[.slice none 0 0] 30)).alloc (.cells #[.int .i64 0] 24)).alloc (.cells #[.slice none 0 0] 30)).alloc (.cells #[.string s] 9)
  have b1 := (((Boxed.new (w.alloc (.cells #[.string s] 9)) 30 (.slice none 0 0)).alloc (.cells #[.int .i64 0] 24)).alloc (.cells #[.slice none 0 0] 30)).alloc (.cells #[.string s] 9)
  have b2 := ((Boxed.new ((w.alloc (.cells #[.string s] 9)).alloc (.cells #[.slice none 0 0] 30)) 24 (.int .i64 0)).alloc (.cells #[.slice none 0 0] 30)).alloc (.cells #[.string s] 9)
  have b3 := (Boxed.new (((w.alloc (.cells #[.string s] 9)).alloc (.cells #[.slice none 0 0] 30)).alloc (.cells #[.int .i64 0] 24)) 30 (.slice none 0 0)).alloc (.cells #[.string s] 9)
  have b4 := Boxed.new ((((w.alloc (.cells #[.string s] 9)).alloc (.cells #[.slice none 0 0] 30)).alloc (.cells #[.int .i64 0] 24)).alloc (.cells #[.slice none 0 0] 30)) 9 (.string s)
  have hB : Below w.heap.size w (((((w.alloc (.cells #[.string s] 9)).alloc (.cells #[.slice none 0 0] 30)).alloc (.cells #[.int .i64 0] 24)).alloc (.cells #[.slice none 0 0] 30)).alloc (.cells #[.string s] 9)) :=
    (((((Below.refl _ w).alloc (Nat.le_refl _) _).alloc (by simp) _).alloc (by simp; omega) _).alloc (by simp; omega) _).alloc (by simp; omega) _
  have hsz : (((((w.alloc (.cells #[.string s] 9)).alloc (.cells #[.slice none 0 0] 30)).alloc (.cells #[.int .i64 0] 24)).alloc (.cells #[.slice none 0 0] 30)).alloc (.cells #[.string s] 9)).heap.size = w.heap.size + 5 := by simp
  simp only [World.size_alloc] at b1 b2 b3 b4
  generalize (((((w.alloc (.cells #[.string s] 9)).alloc (.cells #[.slice none 0 0] 30)).alloc (.cells #[.int .i64 0] 24)).alloc (.cells #[.slice none 0 0] 30)).alloc (.cells #[.string s] 9)) = w0 at b0 b1 b2 b3 b4 hB hsz ⊢
  refine range_names (B := w.heap.size + 1 + 1 + 1 + 1) (s := s) (A := pathNames s) (by omega) (by omega) rfl rfl b4 (PathI w s) (PathX w s)
    (fun pre W W' row hi hg hr => hi.kept hg (by rw [hsz] at hr; exact hr)) (fun pre W W' r o hx hg hr _ _ => hx.kept hg (by omega))
    ⟨b0, b1, b2, ⟨_, b3, World.ownsRow_nil _ _ _ _⟩, hB, by simp, by simp, by omega⟩
    (fun x => { tmps := #[.string s, .pointer (some ⟨w.heap.size, 0, none⟩), .pointer (some ⟨w.heap.size + 1, 0, none⟩), .pointer (some ⟨w.heap.size + 1 + 1, 0, none⟩), .pointer (some ⟨w.heap.size + 1 + 1 + 1, 0, none⟩), .string x, .string s, .func (.func 92) #[] #[.pointer (some ⟨w.heap.size + 1 + 1 + 1 + 1, 0, none⟩)], .string x, undef, undef, undef, undef, undef, undef, undef, undef, undef, undef, undef, undef, undef], defers := [] }) ?assign ?body ?done ?stop
  case assign =>
    intro l x W K hK
    gi_wp2
    exact hK
  case body =>
    rintro l pre x W hpre ⟨h1, h2, h3, ⟨v, h4, h5⟩, h6, h7, h8, h10⟩
    have c0 := h1.cell
    have c1 := h2.cell
    have f1 := h2.frozen
    have c2 := h3.cell
    have f2 := h3.frozen
    have hws := h6.size
    have h6' := Aside0.mk h6
    have hpl : pre.length < s.size + 2 := by
      have h := hpre.length_le
      have := pathNames_le s
      simp only [List.length_append, List.length_singleton] at h
      omega
    obtain ⟨i0, hi0, hz0, hz1, hz2⟩ := info_parts infoStr
    by_cases h9 : (1000 : Int) < (s.size : Int)
    · clear h6
      gi_wp2
      refine ⟨trivial, ?_⟩
      gi_wp2
      refine ⟨((KeepsOthers.setCell _ _ _).trans (KeepsOthers.setCell _ _ _)).from _, ?_, ?_⟩
      · exact (Below.heap_setCell _ _ _ _ (by show w.heap.size + 1 + 1 + 1 + 1 ≠ w.heap.size + 1 + 1; omega)).trans (Below.heap_setCell _ _ _ _ (by show w.heap.size + 1 + 1 + 1 + 1 ≠ w.heap.size + 1; omega))
      · exact ⟨(h2.set _).kept (grownBy_setCell' _ _ _) (by simp), (h3.kept (grownBy_setCell' _ _ _) (by simp)).set _, (h6'.out.setCell (p := ⟨w.heap.size + 1, 0, none⟩) (by simp) _).setCell (p := ⟨w.heap.size + 1 + 1, 0, none⟩) (by simp; omega) _, .inr (by omega)⟩
    · cases hx : namedB x
      · clear h6
        gi_wp2_with (refine ⟨trivial, ?_⟩; gi_at_call 75; refine (CallsIn.inRound l (callsIn_wide.2 (named_calls _ _))).mono ?_; rintro e w' ⟨rfl, hw⟩; have g1 := below_boxed h2 hw; have g2 := below_boxed h3 hw; have d1 := g1.cell; have e1 := g1.frozen; have d2 := g2.cell; have e2 := g2.frozen; have hw' := Aside0.mk hw; clear hw; rw [hx])
        have hlt : w.heap.size + 1 + 1 + 1 + 1 < W.heap.size := by omega
        refine ⟨(below_keeps hw'.out _).trans (((KeepsOthers.setCell _ _ _).trans (KeepsOthers.setCell _ _ _)).from _), ?_, ?_⟩
        · exact ((Below.heap_setCell _ _ _ _ (by show w.heap.size + 1 + 1 + 1 + 1 ≠ w.heap.size + 1 + 1; omega)).trans (Below.heap_setCell _ _ _ _ (by show w.heap.size + 1 + 1 + 1 + 1 ≠ w.heap.size + 1; omega))).trans (hw'.out.block _ hlt)
        · exact ⟨(g1.set _).kept (grownBy_setCell' _ _ _) (by simp), (g2.kept (grownBy_setCell' _ _ _) (by simp)).set _, ((h6'.out.trans (hw'.out.mono h6'.out.size)).setCell (p := ⟨w.heap.size + 1, 0, none⟩) (by simp) _).setCell (p := ⟨w.heap.size + 1 + 1, 0, none⟩) (by simp; omega) _, .inl ⟨x, by simp, hx⟩⟩
      · clear h6
        gi_wp2_with (first | (refine ⟨trivial, ?_⟩; gi_at_call 75; refine (CallsIn.inRound l (callsIn_wide.2 (named_calls _ _))).mono ?_; rintro e w' ⟨rfl, hw⟩; have g4 := below_boxed h4 hw; have d4 := g4.cell; have g5 := Aside0.mk (h5.kept (row := none) ⟨hw.os, hw.tape, hw.output, hw.size, fun k hk _ => hw.block k hk⟩ (by cases hob : v.ownBlock; exact .inl rfl; exact .inr (by simp))); have hw' := Aside0.mk hw; clear hw; rw [hx]) | (gi_at_builtin; refine wpListIn_append_own _ rfl _ _ 30 rfl (w.heap.size + 5) 9 i0 (.string ⟨#[]⟩) 1 16 Try.underlying30 hi0 hz0 hz1 hz2 rfl (by decide) _ _ _ rfl (g5.out.alloc _) ⟨w'.heap.size, 0, none⟩ 1 1 [.string x] rfl rfl (cell_one_new _ _ _) (by simp [Value.oneCell']) (by simp only [maxLen]; omega) (by omega) (by have := hw'.out.size; simp; omega) ?_; intro v' w1 hown' hgrow _; obtain ⟨g', cap', rfl⟩ := ownsRow_succ hown'; obtain ⟨hv1, hv2, hr2, hk2, hb2⟩ := g4.appended (by decide) (own_weaken (base' := w.heap.size) g5.out (by omega)) (by have := hw'.out.size; omega) (by omega) (own_weaken (base' := w.heap.size) hown' (by omega)) hgrow; have hc1 := hv1.cell; have hf1 := hv1.frozen; have hv1' := Aside0.mk hv1; have hv2' := Aside0.mk hv2; have hk2' := Aside0.mk hk2; have hb2' := Aside0.mk hb2; have hr2' := Aside0.mk hown'; have hg2' := Aside0.mk hgrow; clear hv1 hv2 hk2 hb2 hown' hgrow hr2))
        have hlt : w.heap.size + 1 + 1 + 1 + 1 < W.heap.size := by omega
        have hlt2 : w.heap.size + 1 + 1 + 1 + 1 < w'.heap.size := by have := hw'.out.size; omega
        have hv := hv1'.out
        have hnr := hv.not_row (by decide) hr2'.out
        have hown2 := hr2'.out.kept (grownBy_setCell' w1 (w.heap.size + 1 + 1 + 1) (.slice (some ⟨g', 0, none⟩) (pre.length + 1) cap')) (.inr hnr.symm)
        refine ⟨(below_keeps hw'.out _).trans (hk2'.out.from _), ?_, ?_⟩
        · refine (((Below.heap_setCell _ _ _ _ (by show w.heap.size + 1 + 1 + 1 + 1 ≠ w.heap.size + 1 + 1 + 1; omega)).trans (hg2'.out.block _ (by simp; omega) ?_)).trans (Below.heap_alloc _ _ _ hlt2)).trans (hw'.out.block _ hlt)
          intro e
          have := own_base h5 _ e.symm
          omega
        · have keep : ∀ {B' ty : Nat} {u : Value}, B' < w.heap.size + 1 + 1 + 1 → Boxed W B' ty u → Boxed (w1.setCell ⟨w.heap.size + 1 + 1 + 1, 0, none⟩ (.slice (some ⟨g', 0, none⟩) (pre.length + 1) cap')) B' ty u := fun hb hx =>
            (((below_boxed hx hw'.out).alloc _).kept hg2'.out (fun e => by have := own_base h5 _ e.symm; omega)).kept (grownBy_setCell' _ _ _) (by simp; omega)
          refine ⟨keep (by omega) h1, keep (by omega) h2, keep (by omega) h3, ⟨_, hv2'.out, by simpa using hown2⟩, (h6'.out.trans (hw'.out.mono h6'.out.size)).trans hb2'.out, ?_, fun _ => by omega, ?_⟩
          · intro y hy
            rcases List.mem_append.1 hy with hy | hy
            · exact h7 y hy
            · rw [List.mem_singleton.1 hy]; exact hx
          · exact Nat.le_trans (Nat.le_trans h10 hw'.out.size) hb2'.out.size
  case done =>
    rintro D W hD ⟨h1, h2, h3, ⟨v, h4, h5⟩, h6, h7, h8, h10⟩ hK
    have c1 := h2.cell
    have f1 := h2.frozen
    have c2 := h3.cell
    have f2 := h3.frozen
    have c4 := h4.cell
    obtain ⟨A0, n0, k0, rfl⟩ : ∃ A0 n0 k0, v = .slice A0 n0 k0 := by
      rcases h5.2 with ⟨rfl, _⟩ | ⟨g, cap, cur, rfl, _⟩
      · exact ⟨_, _, _, rfl⟩
      · exact ⟨_, _, _, rfl⟩
    have hsh : s.toList = [] ∨ s.size ≤ 1000 := by
      by_cases he : s.toList = []
      · exact .inl he
      · refine .inr (h8 ?_)
        unfold pathNames
        rw [if_neg he]
        unfold piecesB
        simp [parts_ne]
    have hF : pathF s = (pathNames s, 0) := by
      unfold pathF
      rw [if_pos ⟨List.all_eq_true.2 h7, hsh⟩]
    have HF := Aside0.mk hF
    have hne := h2.not_row (by decide) h5
    have hne2 := h3.not_row (by decide) h5
    have h6' := Aside0.mk h6
    have h5' := Aside0.mk h5
    have h2' := h2
    have h3' := h3
    clear h5 h6 h7 hF hsh
    gi_wp2
    have k1 := h2'.set (.slice A0 n0 k0)
    have k2 := (h3'.kept (grownBy_setCell' W (w.heap.size + 1) (.slice A0 n0 k0)) (by simp)).set (.int .i64 0)
    have k1' := k1.kept (grownBy_setCell' _ (w.heap.size + 1 + 1) (.int .i64 0)) (by simp)
    have hK' := ((KeepsOthers.setCell W ⟨w.heap.size + 1, 0, none⟩ (.slice A0 n0 k0)).trans (KeepsOthers.setCell _ ⟨w.heap.size + 1 + 1, 0, none⟩ (.int .i64 0))).same D _ hK rfl
    refine ⟨by simp, .inl ⟨_, _, rfl, run_takeDeferred hK', ?_⟩⟩
    have hc1 := (k1'.kept (grownBy_putObj' _ D (.deferred none)) (by simp; omega)).cell
    have hc2 := (k2.kept (grownBy_putObj' _ D (.deferred none)) (by simp; omega)).cell
    rw [HF.out]
    refine ⟨.tuple #[.slice A0 n0 k0, .int .i64 0], ?_, .slice A0 n0 k0, rfl, ?_, ?_⟩
    · simp [results, Try.f62, go_sem, hc1, hc2]
    · have q1 := (h5'.out.kept (grownBy_setCell' W (w.heap.size + 1) (.slice A0 n0 k0)) (.inr hne.symm)).kept (grownBy_setCell' _ (w.heap.size + 1 + 1) (.int .i64 0)) (.inr hne2.symm)
      exact Kd.R_of_own (own_weaken (ownsRow_putObj q1 _ hK' rfl) (by omega)) (fun _ _ => trivial)
    · have q2 := (h6'.out.setCell (p := ⟨w.heap.size + 1, 0, none⟩) (by simp) (.slice A0 n0 k0)).setCell (p := ⟨w.heap.size + 1 + 1, 0, none⟩) (by simp; omega) (.int .i64 0)
      exact q2.grown (grownBy_putObj' _ D _) q2.size (fun k e => by injection e with e; omega)
  case stop =>
    rintro D pre W hD hpre ⟨h1, h2, h3, h4⟩ hK
    have c1 := h1.cell
    have f1 := h1.frozen
    have c2 := h2.cell
    have f2 := h2.frozen
    have hF : pathF s = ([], 1) := by
      unfold pathF
      rw [if_neg]
      rintro ⟨q1, q2⟩
      rcases h4 with ⟨x, hx, hb⟩ | h4
      · have := List.all_eq_true.1 q1 x (hpre.subset hx)
        rw [hb] at this
        cases this
      · rcases q2 with q2 | q2
        · have : s.size = 0 := by
            have h := congrArg List.length q2
            rw [ByteArray.toList_eq, Array.length_toList] at h
            exact h
          omega
        · omega
    have HF := Aside0.mk hF
    clear h4 hF
    have h3' := Aside0.mk h3
    have h1' := h1
    have h2' := h2
    clear h3
    gi_wp2
    refine ⟨by simp, .inl ⟨_, _, rfl, run_takeDeferred hK, ?_⟩⟩
    have hc1 := (h1'.kept (grownBy_putObj' _ D (.deferred none)) (by simp; omega)).cell
    have hc2 := (h2'.kept (grownBy_putObj' _ D (.deferred none)) (by simp; omega)).cell
    rw [HF.out]
    refine ⟨.tuple #[.slice none 0 0, .int .i64 1], ?_, .slice none 0 0, rfl, Kd.R_nil _ _ _ _ _, ?_⟩
    · simp [results, Try.f62, go_sem, hc1, hc2]
    · exact h3'.out.grown (grownBy_putObj' _ D _) h3'.out.size (fun k e => by injection e with e; omega)
end Go.Proofs.YtlcaogiljiieaaaX
