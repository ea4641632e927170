import Derived.Test.YtlcaogiljiieaaaNarwPut
set_option linter.unusedVariables false
set_option linter.unusedSimpArgs false
/- narw's writer: kinds, file, link. -/
namespace Go.Proofs.YtlcaogiljiieaaaX
open Go.RowKit Go.Maps Go.Proofs.YtlcaogiljiieaaaW.PrintWords Go.Proofs.YtlcaogiljiieaaaW.PrintLast Go.Proofs.YtlcaogiljiieaaaW.PrintMore
/-- What a method's value reads as: the function, the receiver. -/
def meR (v : Value) : Option (DataW Nat × List MemPlace) :=
  match v with
  | .func (.func f) ⟨[.pointer (some ⟨b, 0, none⟩)]⟩ ⟨[]⟩ => some (.agg [.lit (.int .i64 (f : Int)), .lit (.int .i64 (b : Int))], [])
  | .nilFunc => some (.nil, [])
  | _ => none
theorem meR_agg {v : Value} {n m : Int} {ps : List MemPlace} (h : meR v = some (.agg [.lit (.int .i64 n), .lit (.int .i64 m)], ps)) : ∃ f b : Nat, v = .func (.func f) #[.pointer (some ⟨b, 0, none⟩)] #[] ∧ (f : Int) = n ∧ (b : Int) = m := by
  unfold meR at h
  split at h
  · injection h with h
    injection h with h1 h2
    injection h1 with h1
    injection h1 with h3 h4
    injection h3 with h3
    injection h3 with _ h3
    injection h4 with h4
    injection h4 with h4
    injection h4 with _ h4
    exact ⟨_, _, rfl, h3, h4⟩
  · injection h with h
    injection h with h1 h2
    cases h1
  · cases h
theorem law3 : Keyed Try.prog 3 := int_keyed Try.underlying3
def agF (f b : Nat) : DataW Nat := .agg [.lit (.int .i64 (f : Int)), .lit (.int .i64 (b : Int))]
def kindsW (b : Nat) : DataW Nat := (((DataW.map []).put (.int .i64 1) (agF 70 b)).put (.int .i64 2) (agF 71 b)).put (.int .i64 3) (agF 72 b)
def KindsW (w : World) (g b : Nat) : Prop := w.ownsMap Try.prog 3 meR g 3 (kindsW b)
theorem key64 {x : Int} (h : 0 ≤ x ∧ x ≤ 255) : keyOf Try.prog 3 (.int .i64 x) = some (.int .i64 x) := keyOf_int_mk Try.underlying3 (by
  simp [Lit.wf, IntKind.min, IntKind.max, IntKind.signed, IntKind.bits]
  omega)
theorem zeroF (w : World) : (zeroValue 75).run Try.prog w = .ok .nilFunc w := by kernel_rfl
theorem kindsW_look {w : World} {g b : Nat} (h : KindsW w g b) (x : Int) (f : Nat) (hx : (x = 1 ∧ f = 70) ∨ (x = 2 ∧ f = 71) ∨ (x = 3 ∧ f = 72)) :
    (Instr.lookup 76 (.map (some g)) (.int .i64 x) false).run Try.prog w = .ok (.func (.func f) #[.pointer (some ⟨b, 0, none⟩)] #[]) w := by
  obtain ⟨v, ps, hrun, hR⟩ := World.ownsMap.lookup h law3 Try.underlying76 (zeroF w) (zd := .nil) (zp := []) rfl (key64 (x := x) (by omega))
  have e : (kindsW b).atKey (.int .i64 x) (.nil : DataW Nat) = agF f b := by
    rcases hx with ⟨rfl, rfl⟩ | ⟨rfl, rfl⟩ | ⟨rfl, rfl⟩ <;> kernel_rfl
  rw [e] at hR
  obtain ⟨f', b', rfl, hf, hb⟩ := meR_agg hR
  have e1 : f' = f := by omega
  have e2 : b' = b := by omega
  rw [hrun, e1, e2]
set_option maxHeartbeats 2000000 in
set_option maxRecDepth 100000 in
theorem kindsW_calls (b : Nat) (w : World) : Calls Try.prog 59 #[.pointer (some ⟨b, 0, none⟩)] w fun e w' => ∃ g, e = .returned (.map (some g)) ∧ KindsW w' g b ∧ w.heap.size ≤ g ∧ Below w.heap.size w w' := by
  have hmm := @run_makeMap Try.prog
  have hmf : ∀ (fn : Fn) (first cap : Array Value) (w : World), (Instr.makeFunc fn first cap).run Try.prog w = .ok (.func fn first cap) w := fun _ _ _ _ => rfl
  have m0 := World.ownsMap_made w Try.prog 3 meR
  obtain ⟨w1, r1, m1, g1⟩ := World.ownsMap.update m0 law3 Try.underlying76 (by unfold maxLen; omega) (key64 (x := 1) (by decide)) (val := .func (.func 70) #[.pointer (some ⟨b, 0, none⟩)] #[]) (d := agF 70 b) (ps := []) rfl
  obtain ⟨w2, r2, m2, g2⟩ := World.ownsMap.update m1 law3 Try.underlying76 (by unfold maxLen; omega) (key64 (x := 2) (by decide)) (val := .func (.func 71) #[.pointer (some ⟨b, 0, none⟩)] #[]) (d := agF 71 b) (ps := []) rfl
  obtain ⟨w3, r3, m3, g3⟩ := World.ownsMap.update m2 law3 Try.underlying76 (by unfold maxLen; omega) (key64 (x := 3) (by decide)) (val := .func (.func 72) #[.pointer (some ⟨b, 0, none⟩)] #[]) (d := agF 72 b) (ps := []) rfl
  have HM := Aside0.mk m3
  have HB := Aside0.mk (((((Below.refl w.heap.size w).alloc (Nat.le_refl _) (.map #[] 0)).grown g1 (by simp) (fun k hk => by injection hk with hk; omega)).grown g2 (Nat.le_trans (by simp) g1.size) (fun k hk => by injection hk with hk; omega)).grown g3 (Nat.le_trans (Nat.le_trans (by simp) g1.size) g2.size) (fun k hk => by injection hk with hk; omega))
  clear m0 m1 m2 m3 g1 g2 g3
  go_enter Try.func59, Try.ntmps59
  go_wp2
  go_ret
  exact ⟨_, rfl, HM.out, Nat.le_refl _, HB.out⟩
end Go.Proofs.YtlcaogiljiieaaaX
/- narw's writer: file, link. -/
namespace Go.Proofs.YtlcaogiljiieaaaX
open Go.RowKit Go.Maps Go.Proofs.YtlcaogiljiieaaaW.PrintWords Go.Proofs.YtlcaogiljiieaaaW.PrintLast Go.Proofs.YtlcaogiljiieaaaW.PrintMore
def tRegular : ByteArray := ⟨#[114, 101, 103, 117, 108, 97, 114]⟩
def tExecutable : ByteArray := ⟨#[101, 120, 101, 99, 117, 116, 97, 98, 108, 101]⟩
def tContents : ByteArray := ⟨#[99, 111, 110, 116, 101, 110, 116, 115]⟩
def tSymlink : ByteArray := ⟨#[115, 121, 109, 108, 105, 110, 107]⟩
def tTarget : ByteArray := ⟨#[116, 97, 114, 103, 101, 116]⟩
def fileT (e : EntB) : List ByteArray := (tRegular :: (if e.exec = true then [tExecutable, ⟨#[]⟩] else [])) ++ [tContents, e.data]
def linkT (e : EntB) : List ByteArray := [tSymlink, tTarget, e.data]
/-- A step that only makes. -/
theorem wr_alloc {W : World} {b : Nat} {A : Option Addr} {n c : Nat} {i : Int} {xs : List ByteArray} (h : Wr W b A n c i xs) (o : Obj) : Wr (W.alloc o) b A n c i xs := h.below ((Below.refl _ _).alloc (Nat.le_refl _) o)
theorem stays_alloc {W0 W : World} {b : Nat} (h : Stays b W0 W) (hb : b ≤ W.heap.size) (o : Obj) : Stays b W0 (W.alloc o) := h.trans (Stays.of_below ((Below.refl _ _).alloc (Nat.le_refl _) o) hb)
theorem new_cell (W : World) (l : List Value) (t : TypeId) (j : Nat) (u : Value) (h : l[j]? = some u) : (W.alloc (.cells l.toArray t)).cell? ⟨W.heap.size, j, none⟩ = some u := by
  have hb := World.alloc_heap_new W (.cells l.toArray t)
  rw [show (W.alloc (.cells l.toArray t)).cell? ⟨W.heap.size, j, none⟩ = l.toArray[j]? from blk_cell hb j]
  simpa using h
theorem lit_cells (W : World) (ys : List ByteArray) (g : Nat) (hg : g = W.heap.size) : ∀ (j : Nat) (h : j < ys.length), (W.alloc (.cells (ys.map Value.string).toArray 9)).cell? ⟨g, j, none⟩ = some (.string ys[j]) := by
  intro j hj
  subst hg
  exact new_cell W _ _ j _ (by simp [hj])
set_option maxHeartbeats 2000000 in
set_option maxRecDepth 100000 in
theorem link_calls (W : World) (b : Nat) (A : Option Addr) (n c : Nat) (i : Int) (xs : List ByteArray) (hW : Wr W b A n c i xs) (e : EntB) (hl : xs.length ≤ 900000) :
    Calls Try.prog 72 #[.pointer (some ⟨b, 0, none⟩), entV e] W fun x W' => x = .returned (.tuple #[]) ∧ Wr W' b A n c i (xs ++ linkT e) ∧ Stays b W W' := by
  obtain ⟨ep, ek, ex, ed⟩ := e
  have HW := Aside0.mk hW
  have hlt := Aside0.mk (Nat.le_of_lt hW.lt)
  clear hW
  go_enter Try.func72, Try.ntmps72
  go_wp2_with (go_at_call 40; go_loud (refine (put_calls _ b A n c i xs [tSymlink, tTarget, ed] (wr_alloc (wr_alloc HW.out _) _) (W.heap.size + 1) 3 3 rfl ?hc ?hl).mono ?_); (case hc => exact lit_cells _ [tSymlink, tTarget, ed] _ (by simp)); (case hl => simp; omega); rintro x W9 ⟨rfl, h9, s9⟩; have H9 := Aside0.mk h9; have S9 := Aside0.mk s9; clear h9 s9)
  go_end0
  exact ⟨rfl, H9.out, (stays_alloc (stays_alloc (Stays.refl b W) hlt.out _) (by simp; have := hlt.out; omega) _).trans S9.out⟩
set_option maxHeartbeats 2000000 in
set_option maxRecDepth 100000 in
theorem file_calls (W : World) (b : Nat) (A : Option Addr) (n c : Nat) (i : Int) (xs : List ByteArray) (hW : Wr W b A n c i xs) (e : EntB) (hl : xs.length ≤ 900000) :
    Calls Try.prog 70 #[.pointer (some ⟨b, 0, none⟩), entV e] W fun x W' => x = .returned (.tuple #[]) ∧ Wr W' b A n c i (xs ++ fileT e) ∧ Stays b W W' := by
  obtain ⟨ep, ek, ex, ed⟩ := e
  have HW := Aside0.mk hW
  have hlt := Aside0.mk (Nat.le_of_lt hW.lt)
  have hbk := Aside0.mk hW.lt
  clear hW
  cases ex
  · go_enter Try.func70, Try.ntmps70
    go_wp2_with (go_at_call 40; first
      | (refine (put_calls _ b A n c i xs [tRegular] (wr_alloc (wr_alloc HW.out _) _) (W.heap.size + 1) 1 1 rfl ?hc ?hl).mono ?_; (case hc => exact lit_cells _ [tRegular] _ (by simp)); (case hl => simp; omega); rintro x W1 ⟨rfl, h9, s9⟩; have H1 := Aside0.mk h9; have S1 := Aside0.mk ((stays_alloc (stays_alloc (Stays.refl b W) hlt.out _) (by simp; have := hlt.out; omega) _).trans s9); have B1 := s9.same W.heap.size (.cells #[.string ep, .int .i64 ek, .bool false, .string ed] 27) ((Below.heap_alloc _ _ _ (by simp)).trans (World.alloc_heap_new W _)) (by have := hbk.out; omega) (by intro cs h; cases h); have x2 : W1.cell? ⟨W.heap.size, 2, none⟩ = some (.bool false) := (blk_cell B1 2).trans rfl; have x3 : W1.cell? ⟨W.heap.size, 3, none⟩ = some (.string ed) := (blk_cell B1 3).trans rfl; clear h9 s9 B1 HW)
      | (refine (put_calls _ b A n c i (xs ++ [tRegular]) [tContents, ed] (wr_alloc H1.out _) W1.heap.size 2 2 rfl ?hc ?hl).mono ?_; (case hc => exact lit_cells _ [tContents, ed] _ rfl); (case hl => simp; omega); rintro x W2 ⟨rfl, h9, s9⟩; have H2 := Aside0.mk h9; have S2 := Aside0.mk ((stays_alloc S1.out (Nat.le_of_lt H1.out.lt) _).trans s9); clear h9 s9))
    go_end0
    exact ⟨rfl, by simpa [fileT] using H2.out, S2.out⟩
  · go_enter Try.func70, Try.ntmps70
    go_wp2_with (go_at_call 40; first
      | (refine (put_calls _ b A n c i xs [tRegular] (wr_alloc (wr_alloc HW.out _) _) (W.heap.size + 1) 1 1 rfl ?hc ?hl).mono ?_; (case hc => exact lit_cells _ [tRegular] _ (by simp)); (case hl => simp; omega); rintro x W1 ⟨rfl, h9, s9⟩; have H1 := Aside0.mk h9; have S1 := Aside0.mk ((stays_alloc (stays_alloc (Stays.refl b W) hlt.out _) (by simp; have := hlt.out; omega) _).trans s9); have B1 := Aside0.mk (s9.same W.heap.size (.cells #[.string ep, .int .i64 ek, .bool true, .string ed] 27) ((Below.heap_alloc _ _ _ (by simp)).trans (World.alloc_heap_new W _)) (by have := hbk.out; omega) (by intro cs h; cases h)); have x2 : W1.cell? ⟨W.heap.size, 2, none⟩ = some (.bool true) := (blk_cell B1.out 2).trans rfl; clear h9 s9 HW)
      | (refine (put_calls _ b A n c i (xs ++ [tRegular]) [tExecutable, ⟨#[]⟩] (wr_alloc H1.out _) W1.heap.size 2 2 rfl ?hc ?hl).mono ?_; (case hc => exact lit_cells _ [tExecutable, ⟨#[]⟩] _ rfl); (case hl => simp; omega); rintro x W3 ⟨rfl, h9, s9⟩; have H3 := Aside0.mk h9; have S3 := Aside0.mk ((stays_alloc S1.out (Nat.le_of_lt H1.out.lt) _).trans s9); have B3 := s9.same W.heap.size _ ((Below.heap_alloc _ _ _ (Array.getElem?_eq_some_iff.1 B1.out).1).trans B1.out) (by have := hbk.out; omega) (by intro cs h; cases h); have x3 : W3.cell? ⟨W.heap.size, 3, none⟩ = some (.string ed) := (blk_cell B3 3).trans rfl; clear h9 s9 B3 H1)
      | (refine (put_calls _ b A n c i (xs ++ [tRegular] ++ [tExecutable, ⟨#[]⟩]) [tContents, ed] (wr_alloc H3.out _) W3.heap.size 2 2 rfl ?hc ?hl).mono ?_; (case hc => exact lit_cells _ [tContents, ed] _ rfl); (case hl => simp; omega); rintro x W2 ⟨rfl, h9, s9⟩; have H2 := Aside0.mk h9; have S2 := Aside0.mk ((stays_alloc S3.out (Nat.le_of_lt H3.out.lt) _).trans s9); clear h9 s9))
    go_end0
    exact ⟨rfl, by simpa [fileT] using H2.out, S2.out⟩
end Go.Proofs.YtlcaogiljiieaaaX
