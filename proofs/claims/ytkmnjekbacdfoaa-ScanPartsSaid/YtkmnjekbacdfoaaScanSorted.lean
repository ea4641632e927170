/- slices.Sorted(slices.Values(s)) at texts: the walks. -/
import Derived.Test.YtkmnjekbacdfoaaShelf
import Derived.Test.YtkmnjekbacdfoaaWWords
import Derived.RangeFuncBox
import Derived.RangeFuncLeaves
import Derived.RangeFuncKeeps
import Derived.RangeFuncFrom
import Derived.Shelf.Abstract
import Derived.WalkKit
import Derived.OwnWalkIn
import Derived.TacticsInMore
import Derived.LoopNIn
import Derived.LoopIn
set_option linter.unusedVariables false
set_option linter.unusedSimpArgs false
namespace Go.Proofs.YtkmnjekbacdfoaaX
open Go.RowKit Go.Shelf Go.Sort Go.Proofs.YtkmnjekbacdfoaaW.PrintWords
attribute [local go_sem] Oper.semAt_some

/-- The slice value sv holds the texts zs, in a block below n₀; or it is nil and there are none. -/
def Strs (n₀ : Nat) (W : World) (sv : Value) (zs : List ByteArray) : Prop :=
  (sv = .slice none 0 0 ∧ zs = []) ∨ ∃ b off cap, sv = .slice (some ⟨b, off, none⟩) zs.length cap ∧ b < n₀ ∧ ∀ j (hj : j < zs.length), W.cell? ⟨b, off + j, none⟩ = some (.string zs[j])
theorem Strs.below {n₀ : Nat} {A B : World} (h : Below n₀ A B) {sv : Value} {zs : List ByteArray} : Strs n₀ A sv zs → Strs n₀ B sv zs
  | .inl e => .inl e
  | .inr ⟨b, off, cap, e, hb, hc⟩ => .inr ⟨b, off, cap, e, hb, fun j hj => (h.cell (p := ⟨b, off + j, none⟩) hb).trans (hc j hj)⟩

set_option maxRecDepth 100000 in
set_option maxHeartbeats 2000000 in
theorem values1_in (n : Nat) (hn : 1 ≤ n) (l Bs n₀ b off cap : Nat) (zs : List ByteArray) (hz : zs.length ≤ 1000000) (hb : b < n₀) (J Jx : List ByteArray → World → Prop)
    (hY : ∀ pre x W, J pre W → pre.length < zs.length → YieldAt Fence.wide (n - 1) Try.prog l #[.string x] W fun e W' =>
      (e = .returned (.bool true) ∧ J (pre ++ [x]) W' ∧ Below n₀ W W') ∨ (e = .returned (.bool false) ∧ Jx (pre ++ [x]) W'))
    (W : World) (hBs : W.cell? ⟨Bs, 0, none⟩ = some (.slice (some ⟨b, off, none⟩) zs.length cap)) (hc : ∀ j (hj : j < zs.length), W.cell? ⟨b, off + j, none⟩ = some (.string zs[j])) (h0 : J [] W) :
    CallsIn Fence.wide n Try.prog 31 #[.func (.yield l) #[] #[], .pointer (some ⟨Bs, 0, none⟩)] W fun e W' => (∃ v, e = .returned v) ∧
      (J zs W' ∨ (∃ pre, pre <+: zs ∧ Jx pre W')) := by
  refine callsIn_of_wp Try.func31 rfl trivial ?_ rfl
  simp only [Try.ntmps31, List.size_toArray, List.length_cons, List.length_nil, Nat.reduceAdd, Nat.reduceSub, Array.replicate_succ, Array.replicate_zero, List.push_toArray, List.append_toArray, List.nil_append, List.cons_append]
  gi_wp2
  gi_loopw [7] (fun i wr => ∃ k : Nat, k ≤ zs.length ∧ i = .int .i64 k ∧ J (zs.take k) wr ∧ Below n₀ W wr)
    (fun i _ => zs.length - (intOf i).toNat)
  case atStart => exact ⟨0, Nat.zero_le _, rfl, h0, Below.refl _ _⟩
  case round =>
    obtain ⟨k, hk, rfl, hJs, hnx⟩ := hrel
    by_cases hlt : k < zs.length
    · have hcx' := (hnx.cell (p := ⟨b, off + k, none⟩) hb).trans (hc k hlt)
      have htk : zs.take (k + 1) = zs.take k ++ [zs[k]] := by rw [List.take_add_one, List.getElem?_eq_getElem hlt]; rfl
      obtain ⟨x, hx⟩ : ∃ x, zs[k] = x := ⟨_, rfl⟩
      rw [hx] at hcx' htk
      obtain ⟨fn, tmps, assign, body, hy, hR⟩ := hY _ x wr hJs (by rw [List.length_take]; omega)
      gi_wp2
      refine hR.mono ?_
      rintro e W3 (⟨rfl, hJ3, hk3⟩ | ⟨rfl, hJx3⟩)
      · gi_wp2
        go_roundw
        case rel => exact ⟨k + 1, by omega, by simp, by rw [htk]; exact hJ3, hnx.trans hk3⟩
        case measure => simp [intOf]; omega
      · gi_wp2
        refine bodyPost_ret (results_none rfl _ _ _) rfl ?_
        exact ⟨⟨_, rfl⟩, .inr ⟨_, by rw [← htk]; exact List.take_prefix _ _, hJx3⟩⟩
    · obtain rfl : k = zs.length := by omega
      gi_wp2
      go_end0
      exact ⟨⟨_, rfl⟩, .inl (by rwa [List.take_length] at hJs)⟩
set_option maxRecDepth 100000 in
set_option maxHeartbeats 1000000 in
theorem values1_nil_in (n : Nat) (l Bs : Nat) (J : List ByteArray → World → Prop) (W : World) (hBs : W.cell? ⟨Bs, 0, none⟩ = some (.slice none 0 0)) (h0 : J [] W) :
    CallsIn Fence.wide n Try.prog 31 #[.func (.yield l) #[] #[], .pointer (some ⟨Bs, 0, none⟩)] W fun e W' => (∃ v, e = .returned v) ∧ J [] W' := by
  refine callsIn_of_wp Try.func31 rfl trivial ?_ rfl
  simp only [Try.ntmps31, List.size_toArray, List.length_cons, List.length_nil, Nat.reduceAdd, Nat.reduceSub, Array.replicate_succ, Array.replicate_zero, List.push_toArray, List.append_toArray, List.nil_append, List.cons_append]
  gi_wp2
  gi_loopw [7] (fun i wr => i = .int .i64 0 ∧ J [] wr) (fun _ _ => 0)
  case atStart => exact ⟨rfl, h0⟩
  case round =>
    obtain ⟨rfl, hJs⟩ := hrel
    gi_wp2
    go_end0
    exact ⟨⟨_, rfl⟩, hJs⟩
set_option maxHeartbeats 1000000 in
theorem values_in (n : Nat) (a : Option Addr) (len cap : Nat) (w : World) :
    CallsIn Fence.wide n Try.prog 22 #[.slice a len cap] w fun e w' => e = .returned (.func (.func 31) #[] #[.pointer (some ⟨w.heap.size, 0, none⟩)]) ∧ w' = w.alloc (.cells #[.slice a len cap] 23) := by
  refine callsIn_of_wp Try.func22 rfl trivial ?_ rfl
  simp only [Try.ntmps22, List.size_toArray, List.length_cons, List.length_nil, Nat.reduceAdd, Nat.reduceSub, Array.replicate_succ, Array.replicate_zero, List.push_toArray, List.append_toArray, List.nil_append, List.cons_append]
  gi_wp2
  go_ret
  exact ⟨rfl, rfl⟩
theorem values_stops (n : Nat) (hn : 1 ≤ n) (Bs n₀ : Nat) (sv : Value) (zs : List ByteArray) (hz : zs.length ≤ 1000000) (w : World) (hBs : Bs < w.heap.size) (hn₀ : n₀ ≤ w.heap.size)
    (hc : w.cell? ⟨Bs, 0, none⟩ = some sv) (hI : Strs n₀ w sv zs) :
    SeqStopsK Fence.wide n Try.prog 31 #[.pointer (some ⟨Bs, 0, none⟩)] (fun x : ByteArray => #[Value.string x]) (Below n₀) (fun ys => ys = zs) (fun pre => pre <+: zs) zs.length w := fun l J Jx W hW _ _ hY h0 => by
  have hc' := (hW.cell (p := ⟨Bs, 0, none⟩) hBs).trans hc
  rcases hI.below (hW.mono hn₀) with ⟨rfl, rfl⟩ | ⟨b, off, cap, rfl, hb, hcs⟩
  · exact (values1_nil_in n l Bs J W hc' h0).mono fun e W' ⟨he, hj⟩ => ⟨he, .inl ⟨_, rfl, hj⟩⟩
  · refine (values1_in n hn l Bs n₀ b off cap zs hz hb J Jx hY W hc' hcs h0).mono ?_
    rintro e W' ⟨he, hj | ⟨pre, hp, hj⟩⟩
    · exact ⟨he, .inl ⟨_, rfl, hj⟩⟩
    · exact ⟨he, .inr ⟨_, hp, hj⟩⟩
theorem infoStr : (Try.prog.info? 9).map (fun i => (i.zero, i.size, i.bytes)) = some (some (.string ⟨#[]⟩), 1, 16) := by kernel_rfl
/-- Between two rounds: the box holds a row of the call's own: what has come. -/
structure ApI (w : World) (xs : List ByteArray) (W : World) : Prop where
  box : ∃ v, Boxed W w.heap.size 23 v ∧ W.ownsRow (w.heap.size + 1) 9 1 v xs.length (xs.map Value.string)
  below : Below w.heap.size w W
  room : w.heap.size + 1 ≤ W.heap.size
theorem ApI.own (w : World) : OwnFrom (w.heap.size + 1) (ApI w) := by
  rintro xs W W' row ⟨⟨v, h4, h5⟩, h6, h10⟩ hg hr
  refine ⟨⟨v, h4.kept hg (fun e => ?_), h5.kept hg ?_⟩, h6.grown hg h6.size (fun k e => ?_), Nat.le_trans h10 hg.size⟩
  · have := (hr _ e.symm).1
    omega
  · rcases h5.2 with ⟨rfl, _⟩ | ⟨g, cap, cur, rfl, hb, hgb, _⟩
    · exact .inl rfl
    · refine .inr fun e => ?_
      obtain ⟨_, o, ho, hc⟩ := hr g (by simpa [Value.ownBlock] using e.symm)
      rw [hgb] at ho
      injection ho with ho
      subst ho
      cases hc
  · have := (hr _ e).1
    omega
set_option maxRecDepth 100000 in
set_option maxHeartbeats 4000000 in
theorem appendSeq_in (n : Nat) (hn : 3 ≤ n) (Bs : Nat) (sv : Value) (zs : List ByteArray) (hz : zs.length ≤ 1000000) (w : World) (hBs : Bs < w.heap.size) (hc : w.cell? ⟨Bs, 0, none⟩ = some sv) (hS : Strs w.heap.size w sv zs) :
    CallsIn Fence.wide n Try.prog 36 #[.slice none 0 0, .func (.func 31) #[] #[.pointer (some ⟨Bs, 0, none⟩)]] w fun e w' =>
      ∃ v, e = .returned v ∧ w'.ownsRow w.heap.size 9 1 v zs.length (zs.map Value.string) ∧ Below w.heap.size w w' := by
  refine callsIn_of_wp_marks Try.func36 rfl trivial ?_ rfl
  simp only [Try.ntmps36, List.size_toArray, List.length_cons, List.length_nil, Nat.reduceAdd, Nat.reduceSub, Array.replicate_succ, Array.replicate_zero, List.push_toArray, List.append_toArray, List.nil_append, List.cons_append]
  gi_wp2
  have b0 := Boxed.new w 23 (.slice none 0 0)
  have hB : Below w.heap.size w (w.alloc (.cells #[.slice none 0 0] 23)) := (Below.refl _ w).alloc (Nat.le_refl _) _
  have hsz : (w.alloc (.cells #[.slice none 0 0] 23)).heap.size = w.heap.size + 1 := by simp
  generalize w.alloc (.cells #[.slice none 0 0] 23) = w0 at b0 hB hsz ⊢
  refine wpIn_rangeFunc_ownF (encs := fun x : ByteArray => #[Value.string x]) rfl (by omega) (gf := 31) (lb := #[.pointer (some ⟨Bs, 0, none⟩)]) rfl trivial (enters_of Try.func31 (by kernel_rfl) rfl)
    (values_stops (n - 1) (by omega) Bs w.heap.size sv zs hz w hBs (Nat.le_refl _) hc hS) belowK_t (belowK_b (by omega)) hB (fun _ => rfl) (ApI w) (fun _ _ _ => False) ?own (fun _ _ _ _ _ h _ _ => h) ?start
    (fun x => { tmps := #[.slice none 0 0, .func (.func 31) #[] #[.pointer (some ⟨Bs, 0, none⟩)], .pointer (some ⟨w.heap.size, 0, none⟩), undef, .slice none 0 0, .string x, .func (.func 31) #[] #[.pointer (some ⟨Bs, 0, none⟩)], .string x, undef, undef, undef, undef, undef], defers := [] }) ?assign ?body ?done ?stop
  case own => rw [hsz]; exact ApI.own w
  case start => exact ⟨⟨_, b0, World.ownsRow_nil _ _ _ _⟩, hB, by omega⟩
  case assign =>
    intro l x W K hK
    gi_wp2
    exact hK
  case body =>
    rintro l pre x W ⟨⟨v, h4, h5⟩, h6, h10⟩ hlen
    have c4 := h4.cell
    obtain ⟨i0, hi0, hz0, hz1, hz2⟩ := info_parts infoStr
    have h6' := Aside0.mk h6
    have hws := h6.size
    clear h6
    gi_wp2_with (gi_at_builtin; refine wpListIn_append_own _ rfl _ _ 23 rfl (w.heap.size + 1) 9 i0 (.string ⟨#[]⟩) 1 16 Try.underlying23 hi0 hz0 hz1 hz2 rfl (by decide) _ _ _ rfl (h5.alloc _) ⟨W.heap.size, 0, none⟩ 1 1 [.string x] rfl rfl (cell_one_new _ _ _) (by simp [Value.oneCell']) (by simp only [maxLen]; omega) (by omega) (by simp; omega) ?_; intro v' w1 hown' hgrow _; obtain ⟨g', cap', rfl⟩ := ownsRow_succ hown'; obtain ⟨hv1, hv2, hr2, hk2, hb2⟩ := h4.appended (by decide) (own_weaken (base' := w.heap.size) h5 (by omega)) (by omega) (by omega) (own_weaken (base' := w.heap.size) hown' (by omega)) hgrow; have hc1 := hv1.cell; have hf1 := hv1.frozen; have hv1' := Aside0.mk hv1; have hv2' := Aside0.mk hv2; have hk2' := Aside0.mk hk2; have hb2' := Aside0.mk hb2; have hr2' := Aside0.mk hown'; have hg2' := Aside0.mk hgrow; clear hv1 hv2 hk2 hb2 hown' hgrow hr2)
    have hv := hv1'.out
    have hnr := hv.not_row (by decide) hr2'.out
    have hown2 := hr2'.out.kept (grownBy_setCell' w1 w.heap.size (.slice (some ⟨g', 0, none⟩) (pre.length + 1) cap')) (.inr hnr.symm)
    exact ⟨hk2'.out, hb2'.out, ⟨_, hv2'.out, by simpa using hown2⟩, h6'.out.trans hb2'.out, Nat.le_trans h10 hb2'.out.size⟩
  case done =>
    rintro D xs W hD rfl ⟨⟨v, h4, h5⟩, h6, h10⟩ hK
    have c4 := h4.cell
    have h5' := Aside0.mk h5
    have h6' := Aside0.mk h6
    clear h5 h6
    obtain ⟨A0, n0, k0, rfl⟩ : ∃ A0 n0 k0, v = .slice A0 n0 k0 := by
      rcases h5'.out.2 with ⟨rfl, _⟩ | ⟨g, cap, cur, rfl, _⟩
      · exact ⟨_, _, _, rfl⟩
      · exact ⟨_, _, _, rfl⟩
    gi_wp2
    refine ⟨by simp, .inl ⟨_, _, rfl, run_takeDeferred hK, ?_⟩⟩
    refine ⟨.slice A0 n0 k0, ?_, _, rfl, ?_, ?_⟩
    · simp [results, Try.f36, go_sem]
    · exact own_weaken (ownsRow_putObj h5'.out _ hK rfl) (by omega)
    · exact h6'.out.grown (grownBy_putObj' _ D _) h6'.out.size (fun k e => by injection e with e; omega)
  case stop =>
    intro D c pre W hD hp hx
    exact hx.elim
end Go.Proofs.YtkmnjekbacdfoaaX
