import Derived.Test.YthnchdbkgenjhaaDoorShelf
import Derived.Test.YthnchdbkgenjhaaDoorWWords
import Derived.RangeFuncBox
import Derived.RangeFuncLeaves
import Derived.RangeFuncKeeps
import Derived.RangeFuncFrom
import Derived.Shelf.Abstract
import Derived.WalkKit
import Derived.OwnWalkIn
import Derived.TacticsInMore
import Derived.LoopNIn
import Derived.LoopIn
import Derived.Sort.OwnSorted
import Derived.Test.YthnchdbkgenjhaaDoorProg
import Derived.Lib.SlicesCompact
import Derived.Test.YthnchdbkgenjhaaDoorEvFind
set_option linter.unusedVariables false
set_option linter.unusedSimpArgs false
/- slices.Sorted(slices.Values(s)) at texts: the walks. -/
namespace Go.Proofs.YthnchdbkgenjhaaDoorX
open Go.RowKit Go.Shelf Go.Sort Go.Proofs.YthnchdbkgenjhaaDoorW.PrintWords
attribute [local go_sem] Oper.semAt_some
/-- The slice value sv holds the texts zs, in a block below n₀; or there are none. -/
def Strs (n₀ : Nat) (W : World) (sv : Value) (zs : List ByteArray) : Prop :=
  ((∃ A c, sv = .slice A 0 c) ∧ zs = []) ∨ ∃ b off cap, sv = .slice (some ⟨b, off, none⟩) zs.length cap ∧ b < n₀ ∧ ∀ j (hj : j < zs.length), W.cell? ⟨b, off + j, none⟩ = some (.string zs[j])
theorem Strs.below {n₀ : Nat} {A B : World} (h : Below n₀ A B) {sv : Value} {zs : List ByteArray} : Strs n₀ A sv zs → Strs n₀ B sv zs
  | .inl e => .inl e
  | .inr ⟨b, off, cap, e, hb, hc⟩ => .inr ⟨b, off, cap, e, hb, fun j hj => (h.cell (p := ⟨b, off + j, none⟩) hb).trans (hc j hj)⟩
set_option maxRecDepth 100000 in
set_option maxHeartbeats 2000000 in
theorem values1_in (n : Nat) (hn : 1 ≤ n) (l Bs n₀ b off cap : Nat) (zs : List ByteArray) (hz : zs.length ≤ 1000000) (hb : b < n₀) (J Jx : List ByteArray → World → Prop)
    (hY : ∀ pre x W, J pre W → pre.length < zs.length → YieldAt Fence.wide (n - 1) Tryd.prog l #[.string x] W fun e W' =>
      (e = .returned (.bool true) ∧ J (pre ++ [x]) W' ∧ Below n₀ W W') ∨ (e = .returned (.bool false) ∧ Jx (pre ++ [x]) W'))
    (W : World) (hBs : W.cell? ⟨Bs, 0, none⟩ = some (.slice (some ⟨b, off, none⟩) zs.length cap)) (hc : ∀ j (hj : j < zs.length), W.cell? ⟨b, off + j, none⟩ = some (.string zs[j])) (h0 : J [] W) :
    CallsIn Fence.wide n Tryd.prog 56 #[.func (.yield l) #[] #[], .pointer (some ⟨Bs, 0, none⟩)] W fun e W' => (∃ v, e = .returned v) ∧
      (J zs W' ∨ (∃ pre, pre <+: zs ∧ Jx pre W')) := by
  refine callsIn_of_wp Tryd.func56 rfl trivial ?_ rfl
  simp only [Tryd.ntmps56, List.size_toArray, List.length_cons, List.length_nil, Nat.reduceAdd, Nat.reduceSub, Array.replicate_succ, Array.replicate_zero, List.push_toArray, List.append_toArray, List.nil_append, List.cons_append]
  gi_wp2
  gi_loopw [7] (fun i wr => ∃ k : Nat, k ≤ zs.length ∧ i = .int .i64 k ∧ J (zs.take k) wr ∧ Below n₀ W wr)
    (fun i _ => zs.length - (intOf i).toNat)
  case atStart => exact ⟨0, Nat.zero_le _, rfl, h0, Below.refl _ _⟩
  case round =>
    obtain ⟨k, hk, rfl, hJs, hnx⟩ := hrel
    by_cases hlt : k < zs.length
    · have hcx' := (hnx.cell (p := ⟨b, off + k, none⟩) hb).trans (hc k hlt)
      have htk : zs.take (k + 1) = zs.take k ++ [zs[k]] := by rw [List.take_add_one, List.getElem?_eq_getElem hlt]; rfl
      obtain ⟨x, hx⟩ : ∃ x, zs[k] = x := ⟨_, rfl⟩
      rw [hx] at hcx' htk
      obtain ⟨fn, tmps, assign, body, hy, hR⟩ := hY _ x wr hJs (by rw [List.length_take]; omega)
      gi_wp2
      refine hR.mono ?_
      rintro e W3 (⟨rfl, hJ3, hk3⟩ | ⟨rfl, hJx3⟩)
      · gi_wp2
        go_roundw
        case rel => exact ⟨k + 1, by omega, by simp, by rw [htk]; exact hJ3, hnx.trans hk3⟩
        case measure => simp [intOf]; omega
      · gi_wp2
        refine bodyPost_ret (results_none rfl _ _ _) rfl ?_
        exact ⟨⟨_, rfl⟩, .inr ⟨_, by rw [← htk]; exact List.take_prefix _ _, hJx3⟩⟩
    · obtain rfl : k = zs.length := by omega
      gi_wp2
      go_end0
      exact ⟨⟨_, rfl⟩, .inl (by rwa [List.take_length] at hJs)⟩
set_option maxRecDepth 100000 in
set_option maxHeartbeats 1000000 in
theorem values1_nil_in (n : Nat) (l Bs : Nat) (J : List ByteArray → World → Prop) (W : World) (A : Option Addr) (c : Nat) (hBs : W.cell? ⟨Bs, 0, none⟩ = some (.slice A 0 c)) (h0 : J [] W) :
    CallsIn Fence.wide n Tryd.prog 56 #[.func (.yield l) #[] #[], .pointer (some ⟨Bs, 0, none⟩)] W fun e W' => (∃ v, e = .returned v) ∧ J [] W' := by
  refine callsIn_of_wp Tryd.func56 rfl trivial ?_ rfl
  simp only [Tryd.ntmps56, List.size_toArray, List.length_cons, List.length_nil, Nat.reduceAdd, Nat.reduceSub, Array.replicate_succ, Array.replicate_zero, List.push_toArray, List.append_toArray, List.nil_append, List.cons_append]
  gi_wp2
  gi_loopw [7] (fun i wr => i = .int .i64 0 ∧ J [] wr) (fun _ _ => 0)
  case atStart => exact ⟨rfl, h0⟩
  case round =>
    obtain ⟨rfl, hJs⟩ := hrel
    gi_wp2
    go_end0
    exact ⟨⟨_, rfl⟩, hJs⟩
set_option maxHeartbeats 1000000 in
theorem values_in (n : Nat) (a : Option Addr) (len cap : Nat) (w : World) :
    CallsIn Fence.wide n Tryd.prog 42 #[.slice a len cap] w fun e w' => e = .returned (.func (.func 56) #[] #[.pointer (some ⟨w.heap.size, 0, none⟩)]) ∧ w' = w.alloc (.cells #[.slice a len cap] 22) := by
  refine callsIn_of_wp Tryd.func42 rfl trivial ?_ rfl
  simp only [Tryd.ntmps42, List.size_toArray, List.length_cons, List.length_nil, Nat.reduceAdd, Nat.reduceSub, Array.replicate_succ, Array.replicate_zero, List.push_toArray, List.append_toArray, List.nil_append, List.cons_append]
  gi_wp2
  go_ret
  exact ⟨rfl, rfl⟩
theorem values_stops (n : Nat) (hn : 1 ≤ n) (Bs n₀ : Nat) (sv : Value) (zs : List ByteArray) (hz : zs.length ≤ 1000000) (w : World) (hBs : Bs < w.heap.size) (hn₀ : n₀ ≤ w.heap.size)
    (hc : w.cell? ⟨Bs, 0, none⟩ = some sv) (hI : Strs n₀ w sv zs) :
    SeqStopsK Fence.wide n Tryd.prog 56 #[.pointer (some ⟨Bs, 0, none⟩)] (fun x : ByteArray => #[Value.string x]) (Below n₀) (fun ys => ys = zs) (fun pre => pre <+: zs) zs.length w := fun l J Jx W hW _ _ hY h0 => by
  have hc' := (hW.cell (p := ⟨Bs, 0, none⟩) hBs).trans hc
  rcases hI.below (hW.mono hn₀) with ⟨⟨A, c, rfl⟩, rfl⟩ | ⟨b, off, cap, rfl, hb, hcs⟩
  · exact (values1_nil_in n l Bs J W A c hc' h0).mono fun e W' ⟨he, hj⟩ => ⟨he, .inl ⟨_, rfl, hj⟩⟩
  · refine (values1_in n hn l Bs n₀ b off cap zs hz hb J Jx hY W hc' hcs h0).mono ?_
    rintro e W' ⟨he, hj | ⟨pre, hp, hj⟩⟩
    · exact ⟨he, .inl ⟨_, rfl, hj⟩⟩
    · exact ⟨he, .inr ⟨_, hp, hj⟩⟩
theorem infoStr : (Tryd.prog.info? 9).map (fun i => (i.zero, i.size, i.bytes)) = some (some (.string ⟨#[]⟩), 1, 16) := by kernel_rfl
/-- Between two rounds: the box holds a row of the call's own: what has come. -/
structure ApI (w : World) (xs : List ByteArray) (W : World) : Prop where
  box : ∃ v, Boxed W w.heap.size 22 v ∧ W.ownsRow (w.heap.size + 1) 9 1 v xs.length (xs.map Value.string)
  below : Below w.heap.size w W
  room : w.heap.size + 1 ≤ W.heap.size
theorem ApI.own (w : World) : OwnFrom (w.heap.size + 1) (ApI w) := by
  rintro xs W W' row ⟨⟨v, h4, h5⟩, h6, h10⟩ hg hr
  refine ⟨⟨v, h4.kept hg (fun e => ?_), h5.kept hg ?_⟩, h6.grown hg h6.size (fun k e => ?_), Nat.le_trans h10 hg.size⟩
  · have := (hr _ e.symm).1
    omega
  · rcases h5.2 with ⟨rfl, _⟩ | ⟨g, cap, cur, rfl, hb, hgb, _⟩
    · exact .inl rfl
    · refine .inr fun e => ?_
      obtain ⟨_, o, ho, hc⟩ := hr g (by simpa [Value.ownBlock] using e.symm)
      rw [hgb] at ho
      injection ho with ho
      subst ho
      cases hc
  · have := (hr _ e).1
    omega
set_option maxRecDepth 100000 in
set_option maxHeartbeats 4000000 in
theorem appendSeq_in (n : Nat) (hn : 3 ≤ n) (Bs : Nat) (sv : Value) (zs : List ByteArray) (hz : zs.length ≤ 1000000) (w : World) (hBs : Bs < w.heap.size) (hc : w.cell? ⟨Bs, 0, none⟩ = some sv) (hS : Strs w.heap.size w sv zs) :
    CallsIn Fence.wide n Tryd.prog 69 #[.slice none 0 0, .func (.func 56) #[] #[.pointer (some ⟨Bs, 0, none⟩)]] w fun e w' =>
      ∃ v, e = .returned v ∧ w'.ownsRow w.heap.size 9 1 v zs.length (zs.map Value.string) ∧ Below w.heap.size w w' := by
  refine callsIn_of_wp_marks Tryd.func69 rfl trivial ?_ rfl
  simp only [Tryd.ntmps69, List.size_toArray, List.length_cons, List.length_nil, Nat.reduceAdd, Nat.reduceSub, Array.replicate_succ, Array.replicate_zero, List.push_toArray, List.append_toArray, List.nil_append, List.cons_append]
  gi_wp2
  have b0 := Boxed.new w 22 (.slice none 0 0)
  have hB : Below w.heap.size w (w.alloc (.cells #[.slice none 0 0] 22)) := (Below.refl _ w).alloc (Nat.le_refl _) _
  have hsz : (w.alloc (.cells #[.slice none 0 0] 22)).heap.size = w.heap.size + 1 := by simp
  generalize w.alloc (.cells #[.slice none 0 0] 22) = w0 at b0 hB hsz ⊢
  refine wpIn_rangeFunc_ownF (encs := fun x : ByteArray => #[Value.string x]) rfl (by omega) (gf := 56) (lb := #[.pointer (some ⟨Bs, 0, none⟩)]) rfl trivial (enters_of Tryd.func56 (by kernel_rfl) rfl)
    (values_stops (n - 1) (by omega) Bs w.heap.size sv zs hz w hBs (Nat.le_refl _) hc hS) belowK_t (belowK_b (by omega)) hB (fun _ => rfl) (ApI w) (fun _ _ _ => False) ?own (fun _ _ _ _ _ h _ _ => h) ?start
    (fun x => { tmps := #[.slice none 0 0, .func (.func 56) #[] #[.pointer (some ⟨Bs, 0, none⟩)], .pointer (some ⟨w.heap.size, 0, none⟩), undef, .slice none 0 0, .string x, .func (.func 56) #[] #[.pointer (some ⟨Bs, 0, none⟩)], .string x, undef, undef, undef, undef, undef], defers := [] }) ?assign ?body ?done ?stop
  case own => rw [hsz]; exact ApI.own w
  case start => exact ⟨⟨_, b0, World.ownsRow_nil _ _ _ _⟩, hB, by omega⟩
  case assign =>
    intro l x W K hK
    gi_wp2
    exact hK
  case body =>
    rintro l pre x W ⟨⟨v, h4, h5⟩, h6, h10⟩ hlen
    have c4 := h4.cell
    obtain ⟨i0, hi0, hz0, hz1, hz2⟩ := info_parts infoStr
    have h6' := Aside0.mk h6
    have hws := h6.size
    clear h6
    gi_wp2_with (gi_at_builtin; refine wpListIn_append_own _ rfl _ _ 22 rfl (w.heap.size + 1) 9 i0 (.string ⟨#[]⟩) 1 16 Tryd.underlying22 hi0 hz0 hz1 hz2 rfl (by decide) _ _ _ rfl (h5.alloc _) ⟨W.heap.size, 0, none⟩ 1 1 [.string x] rfl rfl (cell_one_new _ _ _) (by simp [Value.oneCell']) (by simp only [maxLen]; omega) (by omega) (by simp; omega) ?_; intro v' w1 hown' hgrow _; obtain ⟨g', cap', rfl⟩ := ownsRow_succ hown'; obtain ⟨hv1, hv2, hr2, hk2, hb2⟩ := h4.appended (by decide) (own_weaken (base' := w.heap.size) h5 (by omega)) (by omega) (by omega) (own_weaken (base' := w.heap.size) hown' (by omega)) hgrow; have hc1 := hv1.cell; have hf1 := hv1.frozen; have hv1' := Aside0.mk hv1; have hv2' := Aside0.mk hv2; have hk2' := Aside0.mk hk2; have hb2' := Aside0.mk hb2; have hr2' := Aside0.mk hown'; have hg2' := Aside0.mk hgrow; clear hv1 hv2 hk2 hb2 hown' hgrow hr2)
    have hv := hv1'.out
    have hnr := hv.not_row (by decide) hr2'.out
    have hown2 := hr2'.out.kept (grownBy_setCell' w1 w.heap.size (.slice (some ⟨g', 0, none⟩) (pre.length + 1) cap')) (.inr hnr.symm)
    exact ⟨hk2'.out, hb2'.out, ⟨_, hv2'.out, by simpa using hown2⟩, h6'.out.trans hb2'.out, Nat.le_trans h10 hb2'.out.size⟩
  case done =>
    rintro D xs W hD rfl ⟨⟨v, h4, h5⟩, h6, h10⟩ hK
    have c4 := h4.cell
    have h5' := Aside0.mk h5
    have h6' := Aside0.mk h6
    clear h5 h6
    obtain ⟨A0, n0, k0, rfl⟩ : ∃ A0 n0 k0, v = .slice A0 n0 k0 := by
      rcases h5'.out.2 with ⟨rfl, _⟩ | ⟨g, cap, cur, rfl, _⟩
      · exact ⟨_, _, _, rfl⟩
      · exact ⟨_, _, _, rfl⟩
    gi_wp2
    refine ⟨by simp, .inl ⟨_, _, rfl, run_takeDeferred hK, ?_⟩⟩
    refine ⟨.slice A0 n0 k0, ?_, _, rfl, ?_, ?_⟩
    · simp [results, Tryd.f69, go_sem]
    · exact own_weaken (ownsRow_putObj h5'.out _ hK rfl) (by omega)
    · exact h6'.out.grown (grownBy_putObj' _ D _) h6'.out.size (fun k e => by injection e with e; omega)
  case stop =>
    intro D c pre W hD hp hx
    exact hx.elim
end Go.Proofs.YthnchdbkgenjhaaDoorX
/- slices.Collect, slices.Sorted over slices.Values at texts: the walks. -/
namespace Go.Proofs.YthnchdbkgenjhaaDoorX
open Go.RowKit Go.Shelf Go.Sort Go.Proofs.YthnchdbkgenjhaaDoorW.PrintWords
attribute [local go_sem] Oper.semAt_some
/-- Texts as rows of bytes; sorted. -/
def rowsOf (zs : List ByteArray) : List (List UInt8) := zs.map fun s => s.data.toList
def sortB (zs : List ByteArray) : List (List UInt8) := (rowsOf zs).mergeSort fun x y => decide (x ≤ y)
theorem rows_enc (zs : List ByteArray) : zs.map Value.string = (rowsOf zs).map encStr := by
  unfold rowsOf
  rw [List.map_map]
  refine List.map_congr_left fun s _ => ?_
  rfl
theorem sortB_length (zs : List ByteArray) : (sortB zs).length = zs.length := by unfold sortB rowsOf; simp
set_option maxRecDepth 100000 in
set_option maxHeartbeats 2000000 in
theorem collect_in (n : Nat) (hn : 4 ≤ n) (Bs : Nat) (sv : Value) (zs : List ByteArray) (hz : zs.length ≤ 1000000) (w : World) (hBs : Bs < w.heap.size) (hc : w.cell? ⟨Bs, 0, none⟩ = some sv) (hS : Strs w.heap.size w sv zs) :
    CallsIn Fence.wide n Tryd.prog 54 #[.func (.func 56) #[] #[.pointer (some ⟨Bs, 0, none⟩)]] w fun e w' =>
      ∃ v, e = .returned v ∧ w'.ownsRow w.heap.size 9 1 v zs.length (zs.map Value.string) ∧ Below w.heap.size w w' := by
  refine callsIn_of_wp Tryd.func54 rfl trivial ?_ rfl
  simp only [Tryd.ntmps54, List.size_toArray, List.length_cons, List.length_nil, Nat.reduceAdd, Nat.reduceSub, Array.replicate_succ, Array.replicate_zero, List.push_toArray, List.append_toArray, List.nil_append, List.cons_append]
  have hfA : Fence.wide.fn 69 := trivial
  have cA := appendSeq_in (n - 1) (by omega) Bs sv zs hz w hBs hc hS
  gi_wp2_with (refine ⟨fun _ => by omega, ?_⟩; gi_at_call 69; refine cA.mono ?_; rintro e w' ⟨v, rfl, hown, hb⟩)
  go_ret
  exact ⟨_, rfl, hown, hb⟩
set_option maxRecDepth 100000 in
set_option maxHeartbeats 2000000 in
theorem sorted_calls (Bs : Nat) (sv : Value) (zs : List ByteArray) (hz : zs.length ≤ 1000000) (w : World) (hBs : Bs < w.heap.size) (hc : w.cell? ⟨Bs, 0, none⟩ = some sv) (hS : Strs w.heap.size w sv zs) :
    Calls Tryd.prog 41 #[.func (.func 56) #[] #[.pointer (some ⟨Bs, 0, none⟩)]] w fun e w' =>
      ∃ v, e = .returned v ∧ w'.ownsRow w.heap.size 9 1 v zs.length ((sortB zs).map encStr) ∧ Below w.heap.size w w' := by
  refine (callsIn_wide (n := 6)).1 ?_
  refine callsIn_of_wp Tryd.func41 rfl trivial ?_ rfl
  simp only [Tryd.ntmps41, List.size_toArray, List.length_cons, List.length_nil, Nat.reduceAdd, Nat.reduceSub, Array.replicate_succ, Array.replicate_zero, List.push_toArray, List.append_toArray, List.nil_append, List.cons_append]
  have hfC : Fence.wide.fn 54 := trivial
  have hfS : Fence.wide.fn 55 := trivial
  gi_wp2_with (gi_at_call 54; refine (collect_in _ (by omega) Bs sv zs hz _ hBs hc hS).mono ?_; rintro e W ⟨v, rfl, hrow, hb⟩)
  rcases hrow.2 with ⟨rfl, hz0⟩ | ⟨gb, cap, cur, rfl, hbase, hgb, r1, r2, r3, r4⟩
  · have hz1 : zs = [] := List.eq_nil_of_length_eq_zero hz0
    subst hz1
    gi_wp2_with (gi_at_call 55; refine (callsIn_wide.2 (Tryd.slices_Sort_string_none none 0 W)).mono ?_; rintro e w' ⟨rfl, rfl⟩)
    go_ret
    exact ⟨_, rfl, by simpa [sortB, rowsOf] using hrow, hb⟩
  · have hlr : (rowsOf zs).length = zs.length := by unfold rowsOf; simp
    have hH : Holds encStr W gb 0 (rowsOf zs).toArray := holds_of_block hgb (by rw [hlr, ← rows_enc]; simpa using r4)
    have hgl : gb < W.heap.size := (Array.getElem?_eq_some_iff.1 hgb).1
    have cS := Tryd.slices_Sort_string gb 0 cap (rowsOf zs) W hH hgl (by rw [hlr]; omega)
    rw [hlr] at cS
    gi_wp2_with (gi_at_call 55; refine (callsIn_wide.2 cS).mono ?_; rintro e w' ⟨rfl, nn, os, rfl⟩)
    go_ret
    refine ⟨_, rfl, ?_, hb.grown (grownBy_sorted _) hb.size (fun j hj => by cases hj; exact hbase)⟩
    have h := ownsRow_sorted (w := W) (n := nn) (os := os) (ss := rowsOf zs) (ts := sortB zs) (by rw [sortB_length, hlr]) hbase hgb (by rw [hlr]; exact r1) r2 r3
    rw [hlr] at h
    exact h
end Go.Proofs.YthnchdbkgenjhaaDoorX
/- Rows in their order; a text between its slashes; trees of entries, sorted, in which each has its directory: plain Lean, no program. -/
namespace Go.Proofs.YthnchdbkgenjhaaDoorX
/-- Rows held against each other, thing by thing. -/
def lexL {α : Type} [BEq α] (lt : α → α → Bool) : List α → List α → Bool
  | _, [] => false
  | [], _ :: _ => true
  | x :: a, y :: b => lt x y || (x == y && lexL lt a b)
structure Ord {α : Type} (lt : α → α → Bool) : Prop where
  irr : ∀ a, lt a a = false
  tr : ∀ a b c, lt a b = true → lt b c = true → lt a c = true
  tot : ∀ a b, lt a b = false → lt b a = false → a = b
theorem Ord.asym {α : Type} {lt : α → α → Bool} (h : Ord lt) {a b : α} (h1 : lt a b = true) : lt b a = false := Bool.eq_false_iff.2 fun h2 => by
  have := h.tr _ _ _ h1 h2; rw [h.irr] at this; cases this
section
variable {α : Type} [BEq α] [LawfulBEq α] {lt : α → α → Bool}
theorem lexL_cons (x y : α) (a b : List α) : lexL lt (x :: a) (y :: b) = true ↔ lt x y = true ∨ (x = y ∧ lexL lt a b = true) := by
  rw [lexL]; simp [Bool.or_eq_true, Bool.and_eq_true]
theorem lexL_irr (h : Ord lt) : ∀ a, lexL lt a a = false
  | [] => rfl
  | x :: a => by
    rw [Bool.eq_false_iff, ne_eq, lexL_cons]
    rintro (h1 | ⟨_, h2⟩)
    · rw [h.irr] at h1; cases h1
    · rw [lexL_irr h a] at h2; cases h2
theorem lexL_tr (h : Ord lt) : ∀ a b c, lexL lt a b = true → lexL lt b c = true → lexL lt a c = true
  | _, [], _, h1, _ => by simp [lexL] at h1
  | _, _ :: _, [], _, h2 => by simp [lexL] at h2
  | [], y :: b, z :: c, _, _ => rfl
  | x :: a, y :: b, z :: c, h1, h2 => by
    rw [lexL_cons] at *
    rcases h1 with h1 | ⟨rfl, h1⟩
    · rcases h2 with h2 | ⟨rfl, h2⟩
      · exact .inl (h.tr _ _ _ h1 h2)
      · exact .inl h1
    · rcases h2 with h2 | ⟨rfl, h2⟩
      · exact .inl h2
      · exact .inr ⟨rfl, lexL_tr h a b c h1 h2⟩
theorem lexL_tot (h : Ord lt) : ∀ a b, lexL lt a b = false → lexL lt b a = false → a = b
  | [], [], _, _ => rfl
  | [], y :: b, h1, _ => by simp [lexL] at h1
  | x :: a, [], _, h2 => by simp [lexL] at h2
  | x :: a, y :: b, h1, h2 => by
    rw [Bool.eq_false_iff, ne_eq, lexL_cons] at h1 h2
    have e : x = y := h.tot _ _ (Bool.eq_false_iff.2 fun q => h1 (.inl q)) (Bool.eq_false_iff.2 fun q => h2 (.inl q))
    subst e
    rw [lexL_tot h a b (Bool.eq_false_iff.2 fun q => h1 (.inr ⟨rfl, q⟩)) (Bool.eq_false_iff.2 fun q => h2 (.inr ⟨rfl, q⟩))]
theorem lexL_ord (h : Ord lt) : Ord (lexL lt) := ⟨lexL_irr h, lexL_tr h, lexL_tot h⟩
/-- What stands between a row and one that begins with it begins with it, too. -/
theorem lexL_between (h : Ord lt) : ∀ (p x y : List α), p <+: y → lexL lt x p = false → lexL lt x y = true → p <+: x
  | [], x, _, _, _, _ => List.nil_prefix
  | c :: p, x, y, hp, h1, h2 => by
    obtain ⟨t, rfl⟩ := hp
    cases x with
    | nil => simp [lexL] at h1
    | cons d x =>
      rw [Bool.eq_false_iff, ne_eq, lexL_cons] at h1
      rw [List.cons_append, lexL_cons] at h2
      have h3 : d = c := by
        rcases h2 with h2 | ⟨e, _⟩
        · exact absurd (.inl h2) h1
        · exact e
      subst h3
      have h4 : lexL lt x (p ++ t) = true := by
        rcases h2 with h2 | ⟨_, h2⟩
        · rw [h.irr] at h2; cases h2
        · exact h2
      exact List.cons_prefix_cons.2 ⟨rfl, lexL_between h p x (p ++ t) ⟨t, rfl⟩ (Bool.eq_false_iff.2 fun q => h1 (.inr ⟨rfl, q⟩)) h4⟩
theorem lexL_prefix (h : Ord lt) : ∀ (p t : List α), t ≠ [] → lexL lt p (p ++ t) = true
  | [], t, ht => by cases t with | nil => exact absurd rfl ht | cons a t => rfl
  | c :: p, t, ht => by rw [List.cons_append, lexL_cons]; exact .inr ⟨rfl, lexL_prefix h p t ht⟩
end
theorem u8_ord : Ord (fun x y : UInt8 => decide (x < y)) := by
  refine ⟨fun a => ?_, fun a b c h1 h2 => ?_, fun a b h1 h2 => ?_⟩
  · simp
  · simp only [decide_eq_true_eq, UInt8.lt_iff_toNat_lt] at *; omega
  · simp only [decide_eq_false_iff_not, UInt8.lt_iff_toNat_lt] at *; exact UInt8.toNat_inj.1 (by omega)
/-- A text's parts between its slashes. -/
def parts : List UInt8 → List (List UInt8)
  | [] => [[]]
  | c :: l => if c = 47 then [] :: parts l else match parts l with
    | [] => [[c]]
    | p :: ps => (c :: p) :: ps
/-- A path's names: none of the empty path. -/
def pnames (l : List UInt8) : List (List UInt8) := if l = [] then [] else parts l
abbrev Nm := List (List UInt8)
structure Ent where
  path : List UInt8
  kind : Int
  exec : Bool
  data : List UInt8
def Ent.nm (e : Ent) : Nm := pnames e.path
/-- Texts and rows of texts, in their order. -/
def bl : List UInt8 → List UInt8 → Bool := lexL fun x y => decide (x < y)
def nlt : Nm → Nm → Bool := lexL bl
theorem bl_ord : Ord bl := lexL_ord u8_ord
theorem nlt_ord : Ord nlt := lexL_ord bl_ord
/-- Does x lie below p? -/
def desc (p x : Nm) : Bool := p.isPrefixOf x && p != x
theorem desc_iff {p x : Nm} : desc p x = true ↔ ∃ t, t ≠ [] ∧ x = p ++ t := by
  unfold desc
  rw [Bool.and_eq_true, List.isPrefixOf_iff_prefix, bne_iff_ne]
  constructor
  · rintro ⟨⟨t, rfl⟩, h⟩
    exact ⟨t, fun e => h (by rw [e, List.append_nil]), rfl⟩
  · rintro ⟨t, ht, rfl⟩
    exact ⟨List.prefix_append _ _, fun e => ht (by simpa using e)⟩
theorem desc_lt {p x : Nm} (h : desc p x = true) : nlt p x = true := by
  obtain ⟨t, ht, rfl⟩ := desc_iff.1 h
  exact lexL_prefix bl_ord p t ht
/-- What stands behind p and ahead of something below p lies below p. -/
theorem desc_between {p x y : Nm} (h : desc p y = true) (h1 : nlt p x = true) (h2 : nlt x y = true) : desc p x = true := by
  obtain ⟨t, ht, rfl⟩ := desc_iff.1 h
  obtain ⟨u, rfl⟩ := lexL_between bl_ord p x (p ++ t) (List.prefix_append _ _) (nlt_ord.asym h1) h2
  refine desc_iff.2 ⟨u, ?_, rfl⟩
  rintro rfl
  rw [List.append_nil, nlt_ord.irr] at h1
  cases h1
structure Tree (l : List Ent) : Prop where
  sorted : l.Pairwise (fun a b => nlt a.nm b.nm = true)
  par : ∀ e ∈ l, e.nm ≠ [] → ∃ d ∈ l, d.nm = e.nm.dropLast ∧ d.kind = 2
section
variable {l pre mid s : List Ent} {e y : Ent}
theorem Tree.ahead (h : Tree l) (hl : l = pre ++ e :: s) : ∀ d ∈ pre, nlt d.nm e.nm = true := by
  have hs := h.sorted
  rw [hl, List.pairwise_append] at hs
  exact fun d hd => hs.2.2 d hd e List.mem_cons_self
theorem Tree.behind (h : Tree l) (hl : l = pre ++ e :: s) : ∀ d ∈ s, nlt e.nm d.nm = true := by
  have hs := h.sorted
  rw [hl, List.pairwise_append, List.pairwise_cons] at hs
  exact hs.2.1.1
/-- Behind the first that does not lie below p none does. -/
theorem Tree.stop (h : Tree l) {z : Ent} (hl : l = pre ++ e :: (mid ++ z :: s)) (hz : desc e.nm z.nm = false) : ∀ m ∈ z :: s, desc e.nm m.nm = false := by
  have hlz : l = (pre ++ e :: mid) ++ z :: s := by rw [hl]; simp
  intro m hmm
  rcases List.mem_cons.1 hmm with rfl | hmm
  · exact hz
  · cases hc : desc e.nm m.nm
    · rfl
    · have := desc_between hc (h.behind hl z (by simp)) (h.behind hlz m hmm)
      rw [hz] at this; cases this
theorem Tree.before (h : Tree l) (hl : l = pre ++ e :: s) : ∀ m ∈ pre ++ [e], desc e.nm m.nm = false := by
  intro m hmm
  cases hc : desc e.nm m.nm
  · rfl
  · have h1 := desc_lt hc
    rcases List.mem_append.1 hmm with hmm | hmm
    · rw [nlt_ord.asym (h.ahead hl m hmm)] at h1; cases h1
    · rw [List.mem_singleton.1 hmm, nlt_ord.irr] at h1; cases h1
end
end Go.Proofs.YthnchdbkgenjhaaDoorX
/- Rows that rise, each once: a row that rises is told by what is in it; laying one in; sorting and taking each once; rows within rows: plain Lean, no program. -/
namespace Go.Proofs.YthnchdbkgenjhaaDoorX
section
variable {α : Type} {lt : α → α → Bool}
def Rise (lt : α → α → Bool) (l : List α) : Prop := l.Pairwise fun x y => lt x y = true
theorem Rise.cons {x : α} {l : List α} (h : Rise lt (x :: l)) : (∀ y ∈ l, lt x y = true) ∧ Rise lt l := List.pairwise_cons.1 h
theorem Ord.ne (h : Ord lt) {a b : α} (h1 : lt a b = true) : a ≠ b := by
  rintro rfl
  rw [h.irr] at h1
  cases h1
theorem rise_ext (h : Ord lt) : ∀ {a b : List α}, Rise lt a → Rise lt b → (∀ x, x ∈ a ↔ x ∈ b) → a = b
  | [], [], _, _, _ => rfl
  | [], y :: b, _, _, hm => absurd ((hm y).2 List.mem_cons_self) (by simp)
  | x :: a, [], _, _, hm => absurd ((hm x).1 List.mem_cons_self) (by simp)
  | x :: a, y :: b, ha, hb, hm => by
    have hxy : x = y := by
      rcases List.mem_cons.1 ((hm x).1 List.mem_cons_self) with h1 | h1
      · exact h1
      rcases List.mem_cons.1 ((hm y).2 List.mem_cons_self) with h2 | h2
      · exact h2.symm
      have h3 := h.asym (hb.cons.1 x h1)
      rw [ha.cons.1 y h2] at h3
      cases h3
    subst hxy
    rw [rise_ext h ha.cons.2 hb.cons.2 fun z => ?_]
    constructor
    · intro hz
      rcases List.mem_cons.1 ((hm z).1 (List.mem_cons_of_mem _ hz)) with h1 | h1
      · exact absurd h1.symm (h.ne (ha.cons.1 z hz))
      · exact h1
    · intro hz
      rcases List.mem_cons.1 ((hm z).2 (List.mem_cons_of_mem _ hz)) with h1 | h1
      · exact absurd h1.symm (h.ne (hb.cons.1 z hz))
      · exact h1
/-- Where a row does not fall, one of each run: it rises. -/
theorem compact_rise [Inhabited α] [DecidableEq α] (h : Ord lt) {zs : List α} (hs : zs.Pairwise fun x y => lt y x = false) : Rise lt (Lib.compact zs) := by
  have key : ∀ m, m ≤ zs.length → Rise lt (Lib.compactUpTo zs.toArray m) ∧ ∀ x ∈ Lib.compactUpTo zs.toArray m, ∃ j, ∃ hj : j < m, ∃ hz : j < zs.length, zs[j] = x := by
    intro m
    induction m with
    | zero => exact fun _ => ⟨List.Pairwise.nil, fun x hx => absurd hx (by simp [Lib.compactUpTo])⟩
    | succ m ih =>
      intro hm
      obtain ⟨h1, h2⟩ := ih (by omega)
      have hml : m < zs.length := by omega
      have hget : zs.toArray[m]! = zs[m] := by simp [hml]
      rw [Lib.compactUpTo_succ]
      split
      · rename_i hk
        refine ⟨List.pairwise_append.2 ⟨h1, List.pairwise_singleton _ _, fun x hx y hy => ?_⟩, fun x hx => ?_⟩
        · rw [List.mem_singleton.1 hy, hget]
          obtain ⟨j, hj, hz, rfl⟩ := h2 x hx
          have hm0 : 0 < m := by omega
          have hp : m - 1 < zs.length := by omega
          have hne : zs[m] ≠ zs[m - 1] := by
            have : zs.toArray[m - 1]! = zs[m - 1] := by simp [hp]
            unfold Lib.keeps at hk
            rw [hget, this] at hk
            rcases of_decide_eq_true hk with h3 | h3
            · omega
            · exact h3
          have hlast : lt zs[m - 1] zs[m] = true := by
            have h4 : lt zs[m] zs[m - 1] = false := List.pairwise_iff_getElem.1 hs (m - 1) m hp hml (by omega)
            cases h5 : lt zs[m - 1] zs[m]
            · exact absurd (h.tot _ _ h4 h5) hne
            · rfl
          rcases Nat.lt_or_ge j (m - 1) with h6 | h6
          · have h7 : lt zs[m - 1] zs[j] = false := List.pairwise_iff_getElem.1 hs j (m - 1) hz hp h6
            cases h8 : lt zs[j] zs[m - 1]
            · rw [h.tot _ _ h8 h7]; exact hlast
            · exact h.tr _ _ _ h8 hlast
          · obtain rfl : j = m - 1 := by omega
            exact hlast
        · rcases List.mem_append.1 hx with hx | hx
          · obtain ⟨j, hj, hz, e⟩ := h2 x hx
            exact ⟨j, by omega, hz, e⟩
          · exact ⟨m, by omega, hml, by rw [List.mem_singleton.1 hx, hget]⟩
      · rw [List.append_nil]
        exact ⟨h1, fun x hx => by
          obtain ⟨j, hj, hz, e⟩ := h2 x hx
          exact ⟨j, by omega, hz, e⟩⟩
  exact (key zs.length (Nat.le_refl _)).1
theorem compact_mem [Inhabited α] [DecidableEq α] (zs : List α) (x : α) : x ∈ Lib.compact zs ↔ x ∈ zs := by
  have key : ∀ m, m ≤ zs.length → (x ∈ Lib.compactUpTo zs.toArray m ↔ x ∈ zs.take m) := by
    intro m
    induction m with
    | zero => exact fun _ => by simp [Lib.compactUpTo]
    | succ m ih =>
      intro hm
      have hml : m < zs.length := by omega
      have hget : zs.toArray[m]! = zs[m] := by simp [hml]
      have htk : zs.take (m + 1) = zs.take m ++ [zs[m]] := by rw [List.take_add_one, List.getElem?_eq_getElem hml]; rfl
      rw [Lib.compactUpTo_succ, htk, List.mem_append, List.mem_append, ih (by omega), hget]
      split
      · exact Iff.rfl
      · rename_i hk
        constructor
        · rintro (h1 | h1)
          · exact .inl h1
          · cases h1
        · rintro (h1 | h1)
          · exact .inl h1
          · refine .inl ?_
            have h2 : m ≠ 0 ∧ zs.toArray[m]! = zs.toArray[m - 1]! := by
              unfold Lib.keeps at hk
              have := mt decide_eq_true hk
              refine ⟨fun h0 => this (.inl h0), Classical.byContradiction fun h0 => this (.inr h0)⟩
            have hp : m - 1 < zs.length := by omega
            have hg2 : zs.toArray[m - 1]! = zs[m - 1] := by simp [hp]
            rw [hget, hg2] at h2
            rw [List.mem_singleton.1 h1, h2.2]
            exact List.mem_iff_getElem.2 ⟨m - 1, by rw [List.length_take]; omega, by rw [List.getElem_take]⟩
  have := key zs.length (Nat.le_refl _)
  rwa [List.take_length] at this
end
end Go.Proofs.YthnchdbkgenjhaaDoorX
/- Texts sorted, each once (slices.Sorted, slices.Compact): the walks' words, and what comes out, told plainly. -/
namespace Go.Proofs.YthnchdbkgenjhaaDoorX
open Go.RowKit Go.Sort Go.Proofs.YthnchdbkgenjhaaDoorW.PrintWords Go.Proofs.YthnchdbkgenjhaaDoorW.PrintLast Go.Proofs.YthnchdbkgenjhaaDoorW.PrintMore
/-- Sorted, each once. -/
def foundB (fs : List ByteArray) : List ByteArray := (Lib.compact (sortB fs)).map fun l => ⟨l.toArray⟩
theorem foundB_enc (fs : List ByteArray) : (foundB fs).map Value.string = (Lib.compact (sortB fs)).map encStr := by
  unfold foundB
  rw [List.map_map]
  rfl
theorem foundB_length (fs : List ByteArray) : (foundB fs).length = (Lib.compact (sortB fs)).length := by unfold foundB; rw [List.length_map]
theorem compact_own (w : World) (base : Nat) (v : Value) (zs : List (List UInt8)) (ho : w.ownsRow base 9 1 v zs.length (zs.map encStr)) (hz : zs.length ≤ 1000000) :
    Calls Tryd.prog 40 #[v] w fun e w' => ∃ v', e = .returned v' ∧ w'.ownsRow base 9 1 v' (Lib.compact zs).length ((Lib.compact zs).map encStr) ∧ w.grownBy w' v.ownBlock := by
  rcases ho.2 with ⟨rfl, hz0⟩ | ⟨gb, cap, cur, rfl, hbase, hgb, r1, r2, r3, r4⟩
  · have hz1 : zs = [] := List.eq_nil_of_length_eq_zero hz0
    subst hz1
    refine (Tryd.slices_Compact_string_empty none 0 w).mono ?_
    rintro e w' ⟨rfl, rfl⟩
    exact ⟨_, rfl, by simpa [Lib.compact, Lib.compactUpTo] using ho, ⟨rfl, rfl, rfl, Nat.le_refl _, fun _ _ _ => rfl⟩⟩
  · have hH : Holds encStr w gb 0 zs.toArray := holds_of_block hgb (by simpa using r4)
    refine (Tryd.slices_Compact_string gb 0 cap zs w hH (by omega) r1).mono ?_
    rintro e w' ⟨rfl, q, rfl⟩
    have hle := Lib.compact_length_le zs
    have h := ownsRow_sorted (w := w) (n := q) (os := #[]) (ss := zs) (ts := Lib.compact zs ++ List.replicate (zs.length - (Lib.compact zs).length) []) (by simp; omega) hbase hgb r1 r2 r3
    have hg := grownBy_sorted (w := w) (n := q) (os := #[]) (g := gb) (Lib.compact zs ++ List.replicate (zs.length - (Lib.compact zs).length) []).toArray
    have h2 := own_take h hle
    have hgr : ∀ X : World, grow X #[] = X := fun X => by simp [grow]
    rw [hgr] at hg h2
    refine ⟨_, rfl, ?_, hg⟩
    simpa using h2
theorem bl_less : ∀ x y : List UInt8, Op.bytesLess x y = bl x y
  | x, [] => by cases x <;> rfl
  | [], _ :: _ => rfl
  | a :: x, b :: y => by
    rw [Op.bytesLess, bl_less x y]
    rfl
theorem le_bl (x y : List UInt8) : decide (x ≤ y) = !bl y x := by
  rw [← bl_less, Proofs.bytesLess_eq]
  by_cases h : y < x
  · rw [decide_eq_true h, decide_eq_false]
    · rfl
    · exact fun h2 => h2 h
  · rw [decide_eq_false h, decide_eq_true]
    · rfl
    · exact h
def bB (a b : ByteArray) : Bool := bl a.data.toList b.data.toList
theorem bB_ord : Ord bB := ⟨fun a => bl_ord.irr _, fun a b c => bl_ord.tr _ _ _, fun a b h1 h2 => ba_ext (bl_ord.tot _ _ h1 h2)⟩
theorem sortB_mem (fs : List ByteArray) (x : List UInt8) : x ∈ sortB fs ↔ ∃ s ∈ fs, s.data.toList = x := by
  unfold sortB rowsOf
  rw [(List.mergeSort_perm _ _).mem_iff, List.mem_map]
theorem sortB_up (fs : List ByteArray) : (sortB fs).Pairwise fun x y => bl y x = false := by
  have h : (sortB fs).Pairwise fun x y => (decide (x ≤ y) = true) := by
    unfold sortB
    refine List.pairwise_mergeSort (le := fun x y => decide (x ≤ y)) ?_ ?_ _
    · intro a b c h1 h2
      rw [le_bl] at h1 h2 ⊢
      rw [Bool.not_eq_true'] at h1 h2 ⊢
      cases h3 : bl c a
      · rfl
      · cases h4 : bl b c
        · have := bl_ord.tot _ _ h4 h2
          subst this
          rw [h3] at h1; cases h1
        · rw [bl_ord.tr _ _ _ h4 h3] at h1; cases h1
    · intro a b
      rw [le_bl, le_bl]
      cases h1 : bl b a
      · rfl
      · rw [bl_ord.asym h1]; rfl
  refine h.imp fun h1 => ?_
  rw [le_bl, Bool.not_eq_true'] at h1
  exact h1
theorem foundB_rise (fs : List ByteArray) : Rise bB (foundB fs) := by
  have h := compact_rise bl_ord (sortB_up fs)
  unfold Rise foundB at *
  rw [List.pairwise_map]
  exact h
theorem foundB_mem (fs : List ByteArray) (x : ByteArray) : x ∈ foundB fs ↔ x ∈ fs := by
  unfold foundB
  rw [List.mem_map]
  constructor
  · rintro ⟨l, hl, rfl⟩
    obtain ⟨s, hs, rfl⟩ := (sortB_mem fs l).1 ((compact_mem _ _).1 hl)
    exact hs
  · intro h
    exact ⟨x.data.toList, (compact_mem _ _).2 ((sortB_mem fs _).2 ⟨x, h, rfl⟩), rfl⟩
theorem foundB_one (x : ByteArray) : foundB [x] = [x] :=
  rise_ext bB_ord (foundB_rise [x]) (List.pairwise_singleton _ _) fun y => foundB_mem [x] y
end Go.Proofs.YthnchdbkgenjhaaDoorX
